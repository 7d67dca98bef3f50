/- What a statement's arguments that are slices of structs are to the executor. No statement of the seat is proved here. -/
import Derived.Test.YtdommpfnoiemkaaAux
import Derived.ProofKit
import Derived.OpenShut
import Derived.ChangeOld
import Derived.Deep.Slices
import Derived.Deep.Fields
import Derived.ChangeSame
namespace Go.Proofs.Ytdommpfnoiemkaa
open Go.Sx Go.ChangeShapes Go.WideShapes Go.ChangeAt Go.Deep
set_option linter.unusedSimpArgs false
set_option linter.unusedVariables false
section
variable {H : Type} {enc : TypeId × Value → H} {P : Program} {W w : World} {base : Nat} {spare : Nat → Bool} {held : Bool}
theorem open_slice_fields {t e : TypeId} {fs : Array Field} {fuel : Nat} {cs : List Value} {x : DataW H × List MemPlace} (ht : P.underlying t = some (.slice e)) (he : P.underlying e = some (.struct fs))
    (hone : oneCellFields P fs = true) (hC : P.cellsOf e = fs.size) (h : DataW.trod enc P w base spare held fuel t cs = some x) :
    (cs = [.slice none 0 0] ∧ x = (.nil, [])) ∨
    ∃ (a : Addr) (len cap m : Nat) (D : Nat → DataW H) (Pl : Nat → List MemPlace), cs = [.slice (some a) len cap] ∧ base ≤ a.block ∧ len ≤ cap ∧ cap ≤ maxLen ∧ m = (if spare a.block then cap else len) ∧
      x = (.slice ((List.range len).map D) ((List.range (m - len)).map fun j => D (len + j)), MemPlace.row a (m * fs.size) ++ (List.range m).flatMap Pl) ∧
      ∀ i, i < m → ∃ (ys : List (DataW H × List MemPlace)) (n : Nat), D i = .agg (ys.map (·.1)) ∧ Pl i = ys.flatMap (·.2) ∧ ys.length = fs.size ∧
        ∀ (j : Nat) (f : Field), fs[j]? = some f → ∃ (v : Value) (y : DataW H × List MemPlace), w.cell? (a.add (i * fs.size + j)) = some v ∧ ys[j]? = some y ∧ DataW.trod enc P w base spare held n f.type [v] = some y := by
  rcases open_slice ht h with h0 | ⟨a, len, cap, m, n, D, Pl, hcs, hb, hl, hm, hmm, hx, hi⟩
  · exact .inl h0
  · refine .inr ⟨a, len, cap, m, D, Pl, hcs, hb, hl, hm, hmm, by rw [hC] at hx; exact hx, fun i him => ?_⟩
    obtain ⟨cs', hc, ht'⟩ := hi i him
    rw [hC] at hc
    obtain ⟨ys, n', hn', hy, hlen, hyl, hf⟩ := DataW.trod_struct he ht'
    obtain ⟨_, hcl, hat⟩ := World.cells?_some hc
    simp only [Prod.mk.injEq] at hy
    refine ⟨ys, n', hy.1, hy.2, hyl, fun j f hj => ?_⟩
    obtain ⟨ho, hk⟩ := hone_of hone j f hj
    have hjl : j < fs.size := (Array.getElem?_eq_some_iff.1 hj).1
    have hcell := hat j hjl
    have hv : cs'[j]? = some (cs'[j]'(by omega)) := List.getElem?_eq_getElem (by omega)
    have h1 := hf j f hj
    rw [ho, hk] at h1
    have hone' : (cs'.drop j).take 1 = [cs'[j]'(by omega)] := by
      rw [List.drop_eq_getElem_cons (by omega)]
      rfl
    rw [hone'] at h1
    have hys : ys[j]? = some (ys[j]'(by omega)) := List.getElem?_eq_getElem (by omega)
    refine ⟨_, _, ?_, hys, h1.trans hys⟩
    rw [← Go.Deep.add_add, hcell, hv]
/-- A field's reading: a number of a kind (`some k`) or a Bool (`none`). -/
def fieldOk : Option IntKind → SV → Value → Prop
  | some k, s, v => ∃ z : Int, s = .int k z ∧ v = .int k z ∧ (Lit.int k z).wf = true
  | none, s, v => ∃ b : Bool, s = .bool b ∧ v = .bool b
def fieldsOk : List (Option IntKind) → List SV → Prop
  | [], [] => True
  | some k :: ks, s :: es => (∃ z : Int, s = .int k z ∧ (Lit.int k z).wf = true) ∧ fieldsOk ks es
  | none :: ks, s :: es => (∃ b : Bool, s = .bool b) ∧ fieldsOk ks es
  | _, _ => False
def fieldTyP (P : Program) : Option IntKind → TypeId → Prop
  | some k, t => P.underlying t = some (.int k)
  | none, t => P.underlying t = some .bool
theorem field_of {q : Option IntKind} {t : TypeId} {n : Nat} {v : Value} {y : DataW H × List MemPlace} (ht : fieldTyP P q t) (h : DataW.trod enc P w base spare held n t [v] = some y) :
    ∃ s, fieldOk q s v := by
  cases q with
  | some k =>
    obtain ⟨z, hz, _, hw⟩ := DataW.trod_int ht h
    simp at hz; subst hz
    exact ⟨.int k z, z, rfl, rfl, hw⟩
  | none =>
    obtain ⟨b, hz, _⟩ := DataW.trod_bool ht h
    simp at hz; subst hz
    exact ⟨.bool b, b, rfl, rfl⟩
theorem fieldOk_rep {q : Option IntKind} {s : SV} {v : Value} (h : fieldOk q s v) : v.oneCell' = true ∧ ∀ σ, Rep w (fun _ => False) σ s v := by
  cases q with
  | some k => obtain ⟨z, rfl, rfl, _⟩ := h; exact ⟨rfl, fun _ => .int⟩
  | none => obtain ⟨b, rfl, rfl⟩ := h; exact ⟨rfl, fun _ => .bool⟩
theorem fieldsOk_of : ∀ {ks : List (Option IntKind)} {es : List SV}, es.length = ks.length → (∀ (j : Nat) (q : Option IntKind) (s : SV), ks[j]? = some q → es[j]? = some s → ∃ v, fieldOk q s v) → fieldsOk ks es
  | [], [], _, _ => trivial
  | some k :: ks, s :: es, hl, h => by
    obtain ⟨v, z, hz, _, hw⟩ := h 0 (some k) s rfl rfl
    exact ⟨⟨z, hz, hw⟩, fieldsOk_of (by simpa using hl) fun j q s hq hs => h (j + 1) q s hq hs⟩
  | none :: ks, s :: es, hl, h => by
    obtain ⟨v, z, hz, _⟩ := h 0 none s rfl rfl
    exact ⟨⟨z, hz⟩, fieldsOk_of (by simpa using hl) fun j q s hq hs => h (j + 1) q s hq hs⟩
theorem choose_list {α : Type} (n : Nat) (p : Nat → α → Prop) (h : ∀ i, i < n → ∃ a, p i a) : ∃ l : List α, l.length = n ∧ ∀ i a, l[i]? = some a → p i a := by
  induction n with
  | zero => exact ⟨[], rfl, by simp⟩
  | succ n ih =>
    obtain ⟨l, hl, hp⟩ := ih fun i hi => h i (by omega)
    obtain ⟨a, ha⟩ := h n (by omega)
    refine ⟨l ++ [a], by simp [hl], fun i b hb => ?_⟩
    by_cases hi : i < l.length
    · rw [List.getElem?_append_left hi] at hb; exact hp i b hb
    · rw [List.getElem?_append_right (by omega)] at hb
      have : i - l.length = 0 := by
        have := (List.getElem?_eq_some_iff.1 hb).1
        simp at this; omega
      rw [this] at hb
      simp at hb; subst hb
      obtain rfl : i = n := by omega
      exact ha
def fieldTyB (P : Program) (q : Option IntKind) (t : TypeId) : Bool := match q, P.underlying t with
  | some k, some (.int k') => decide (k' = k)
  | none, some .bool => true
  | _, _ => false
def fieldTysB (P : Program) (fs : Array Field) (ks : List (Option IntKind)) : Bool := decide (ks.length = fs.size) && decide (0 < ks.length) && (List.range fs.size).all fun j => match fs[j]?, ks[j]? with
  | some f, some q => fieldTyB P q f.type
  | _, _ => false
theorem fieldTy_of {q : Option IntKind} {t : TypeId} (h : fieldTyB P q t = true) : fieldTyP P q t := by
  unfold fieldTyB at h
  split at h
  · rename_i heq; simp at h; subst h; exact heq
  · rename_i heq; exact heq
  · cases h
theorem fieldTys_of {fs : Array Field} {ks : List (Option IntKind)} (h : fieldTysB P fs ks = true) : ks.length = fs.size ∧ 0 < ks.length ∧ ∀ (j : Nat) (f : Field) (q : Option IntKind), fs[j]? = some f → ks[j]? = some q → fieldTyP P q f.type := by
  simp only [fieldTysB, Bool.and_eq_true, decide_eq_true_eq, List.all_eq_true, List.mem_range] at h
  obtain ⟨⟨h1, h2⟩, h3⟩ := h
  refine ⟨h1, h2, fun j f q hf hq => fieldTy_of ?_⟩
  have := h3 j (Array.getElem?_eq_some_iff.1 hf).1
  rw [hf, hq] at this
  exact this
/-- A slice of structs of numbers and Bools. -/
theorem arg_structs {t e : TypeId} {fs : Array Field} {ks : List (Option IntKind)} {b : Nat} {v : Value} {d : DataW H} {p : List MemPlace} (ht : P.underlying t = some (.slice e)) (he : P.underlying e = some (.struct fs))
    (hone : oneCellFields P fs = true) (hC : P.cellsOf e = fs.size) (hkk : fieldTysB P fs ks = true)
    (hv : Value.okWide P W .any b t v) (h : DataW.Trod enc P W base spare held t v d p) : ∃ es : List (List SV), (∀ e ∈ es, fieldsOk ks e) ∧ Rep W (fun _ => False) [] (.rs ks.length es) v := by
  obtain ⟨hks, hk0, hty⟩ := fieldTys_of hkk
  obtain ⟨a0, len0, cap0, rfl⟩ := okWide_slice ht hv
  obtain ⟨fuel, hf⟩ := h
  rcases open_slice_fields ht he hone hC hf with ⟨hcs, _⟩ | ⟨a, len, cap, m, D, Pl, hcs, _, hl, hm, hmm, _, hi⟩
  · simp [Value.cells] at hcs
    obtain ⟨rfl, rfl, rfl⟩ := hcs
    exact ⟨[], by simp, .rs0 (Nat.zero_le _)⟩
  · simp [Value.cells] at hcs
    obtain ⟨rfl, rfl, rfl⟩ := hcs
    have hml : len0 ≤ m := by rw [hmm]; split <;> omega
    -- the cells of one struct
    have row : ∀ i, i < len0 → ∃ es : List (SV × Value), es.length = ks.length ∧ ∀ j (x : SV × Value), es[j]? = some x → W.cell? (a.add (i * ks.length + j)) = some x.2 ∧ ∃ q, ks[j]? = some q ∧ fieldOk q x.1 x.2 := by
      intro i hil
      obtain ⟨ys, n, _, _, _, hfld⟩ := hi i (by omega)
      obtain ⟨l, hl1, hl2⟩ := choose_list ks.length (fun j (x : SV × Value) => W.cell? (a.add (i * ks.length + j)) = some x.2 ∧ ∃ q, ks[j]? = some q ∧ fieldOk q x.1 x.2) (by
        intro j hj
        have hjf : fs[j]? = some (fs[j]'(by omega)) := Array.getElem?_eq_getElem (by omega)
        have hjk : ks[j]? = some (ks[j]'hj) := List.getElem?_eq_getElem hj
        obtain ⟨v, y, hcell, _, htr⟩ := hfld j _ hjf
        obtain ⟨s, hs⟩ := field_of (hty j _ _ hjf hjk) htr
        exact ⟨(s, v), by rw [hks]; exact hcell, _, hjk, hs⟩)
      exact ⟨l, hl1, hl2⟩
    obtain ⟨rows, hr1, hr2⟩ := choose_list len0 _ row
    have hmem : ∀ (i : Nat) (e : List SV), (rows.map fun r => r.map Prod.fst)[i]? = some e → ∃ r, rows[i]? = some r ∧ e = r.map Prod.fst := by
      intro i e h
      rw [List.getElem?_map] at h
      cases hr : rows[i]? with
      | none => rw [hr] at h; simp at h
      | some r => rw [hr] at h; simp at h; exact ⟨r, rfl, h.symm⟩
    refine ⟨rows.map fun r => r.map Prod.fst, fun e he => ?_, ?_⟩
    · obtain ⟨i, hgi⟩ := List.getElem?_of_mem he
      obtain ⟨r, hr, rfl⟩ := hmem i e hgi
      obtain ⟨h1, h2⟩ := hr2 i r hr
      refine fieldsOk_of (by simp [h1]) fun j q s hq hs => ?_
      rw [List.getElem?_map] at hs
      cases hx : r[j]? with
      | none => rw [hx] at hs; simp at hs
      | some x =>
        rw [hx] at hs; simp at hs; subst hs
        obtain ⟨_, q', hq', hok⟩ := h2 j x hx
        rw [hq] at hq'; simp at hq'; subst hq'
        exact ⟨x.2, hok⟩
    · have hrl : (rows.map fun r => r.map Prod.fst).length = len0 := by simp [hr1]
      by_cases h0 : len0 = 0
      · have : rows = [] := List.eq_nil_of_length_eq_zero (by omega)
        subst this
        subst h0
        exact .rs0 hm
      have key : Rep W (fun _ => False) [] (.rs ks.length (rows.map fun r => r.map Prod.fst)) (.slice (some a) (rows.map fun r => r.map Prod.fst).length cap0) := by
        have hlt : a.block < W.heap.size := by
          obtain ⟨r, hr⟩ : ∃ r, rows[0]? = some r := ⟨_, List.getElem?_eq_getElem (by omega)⟩
          obtain ⟨h1, h2⟩ := hr2 0 r hr
          obtain ⟨x, hx⟩ : ∃ x, r[0]? = some x := ⟨_, List.getElem?_eq_getElem (by omega)⟩
          have := block_lt' (h2 0 x hx).1
          rwa [Go.Sx.add_block] at this
        have get : ∀ (i : Nat) (e : List SV) (j : Nat) (s : SV), (rows.map fun r => r.map Prod.fst)[i]? = some e → e[j]? = some s → ∃ r x, rows[i]? = some r ∧ r[j]? = some x ∧ s = x.1 := by
          intro i e j s he hs
          obtain ⟨r, hr, rfl⟩ := hmem i e he
          rw [List.getElem?_map] at hs
          cases hx : r[j]? with
          | none => rw [hx] at hs; simp at hs
          | some x => rw [hx] at hs; simp at hs; exact ⟨r, x, hr, hx, hs.symm⟩
        refine .rs (val := fun i j => match rows[i]? with | some r => (match r[j]? with | some x => x.2 | none => Go.undef) | none => Go.undef) (by rw [hrl]; exact hl) hm (fun h => h) hlt (fun i e he => ?_) (fun i e j s he hs => ?_) (fun i e j s he hs => ?_) (fun i e j s he hs => ?_)
        · obtain ⟨r, hr, rfl⟩ := hmem i e he
          simp [(hr2 i r hr).1]
        all_goals
          obtain ⟨r, x, hr, hx, rfl⟩ := get i e j s he hs
          obtain ⟨hc, q, _, hok⟩ := (hr2 i r hr).2 j x hx
          simp only [hr, hx]
        · exact hc
        · exact (fieldOk_rep (w := W) hok).1
        · exact (fieldOk_rep (w := W) hok).2 _
      rw [hrl] at key
      exact key
end
end Go.Proofs.Ytdommpfnoiemkaa

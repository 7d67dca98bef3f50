/- The symbolic executor is sound: the operations. No statement of the seat is proved here. -/
import Derived.Test.YthlomoacacebeacSxE
import Derived.Great.FillDense
namespace Go.Sx
section
variable {P : Program} {T : Tab}

def OpRes (P : Program) (m : Sem Next) (w : World) (X : Nat → Prop) (σ : Sg) (h2 : Hp) (s : SV) (ws : Ws) : Prop :=
  DoneS P m w fun v w' => ∃ σ', Rep w' (Ex X σ') σ' s v ∧ Inv w' X σ' (upd ws h2) ∧ Step σ.length w σ w' σ' ∧ σ'.length = σ.length

structure OpOK (P : Program) (F : Fr) (h : Hp) (op : Op) (s : SV) (ws : Ws) (rds : List Nat) : Prop where
  ok : ∀ (w : World) (X : Nat → Prop) (σ : Sg) (h2 : Hp) (ρ : Operand → Value) (d : Option Tmp) (ty : TypeId) (pos : String) (after : Array Edge) (guard : Option (Nat × Bool)),
    Inv w X σ h2 → (∀ x ∈ op.operands.toList, OpnRep w (Ex X σ) σ F ρ x) → (∀ i ∈ rds, h2[i]? = h[i]?) → OpRes P (execOp ρ ⟨d, op, ty, pos, after, guard⟩) w X σ h2 s ws
  sub : ∀ p ∈ ws, p.1 ∈ rds

theorem OpRes.pure {m : Sem Next} {w : World} {X : Nat → Prop} {σ : Sg} {h2 : Hp} {s : SV} {v : Value} (hm : m.run P w = .ok (.value v) w) (hI : Inv w X σ h2) (hr : Rep w (Ex X σ) σ s v) : OpRes P m w X σ h2 s [] := by
  unfold OpRes DoneS
  rw [hm]
  exact ⟨σ, hr, hI, .refl _ _ _, rfl⟩
theorem OpOK.pure {F : Fr} {h : Hp} {op : Op} {s : SV} {rds : List Nat}
    (hx : ∀ (w : World) (E : Nat → Prop) (σ : Sg) (ρ : Operand → Value) (d : Option Tmp) (ty : TypeId) (pos : String) (after : Array Edge) (guard : Option (Nat × Bool)),
      (∀ x ∈ op.operands.toList, OpnRep w E σ F ρ x) → ∃ v, (execOp ρ ⟨d, op, ty, pos, after, guard⟩).run P w = .ok (.value v) w ∧ Rep w E σ s v) : OpOK P F h op s [] rds :=
  ⟨fun w X σ h2 ρ d ty pos after guard hI ho _ => by
    obtain ⟨v, hv, hr⟩ := hx w (Ex X σ) σ ρ d ty pos after guard ho
    exact .pure hv hI hr, by simp⟩

/-! ### zero values -/
theorem rep_ofV' {w : World} {E : Nat → Prop} {σ : Sg} (v : Value) : Rep w E σ (ofV v) v := by
  unfold ofV
  split
  · exact .int
  · exact .tt
  · exact .ff
  · exact rep_str _
  · exact .nilp
  · exact .nils
  · exact .any
theorem zeroK_sound {i : TypeInfo} {k : List SV → Prop} (h : zeroK (zeroOf i) k) :
    k (zeroOf i) ∧ ∃ z, i.zero = some z ∧ zeroOf i = z.cells.toList.map ofV ∧ (∀ v ∈ z.cells.toList, v.oneCell' = true) ∧ z.cells.size = i.size := by
  have hk : k (zeroOf i) ∧ zeroOf i ≠ [.bot] := by
    unfold zeroK at h
    split at h
    · rename_i he; rw [he]; exact ⟨h, by simp⟩
    · rename_i x xs he
      split at h <;> first | exact h.elim | (rw [he]; exact ⟨h, by simp⟩)
  refine ⟨hk.1, ?_⟩
  have hn := hk.2
  cases hz : i.zero with
  | none => exact absurd (by simp [zeroOf, hz]) hn
  | some z =>
    cases hall : (z.cells.toList.all (·.oneCell') && z.cells.size == i.size) with
    | false => exact absurd (by simp only [zeroOf, hz, hall]; rfl) hn
    | true =>
      have h2 := hall
      simp only [Bool.and_eq_true, List.all_eq_true, beq_iff_eq] at h2
      exact ⟨z, rfl, by simp only [zeroOf, hz, hall, if_true], h2.1, h2.2⟩
theorem zero_rep {w : World} {E : Nat → Prop} {σ : Sg} {z : Value} (hone : ∀ v ∈ z.cells.toList, v.oneCell' = true) :
    (z.cells.toList.map ofV).length = z.cells.size ∧ ∀ (i : Nat) (s : SV) (v : Value), (z.cells.toList.map ofV)[i]? = some s → z.cells[i]? = some v → Rep w E σ s v ∧ v.oneCell' = true := by
  refine ⟨by simp, fun i s v hs hv => ?_⟩
  rw [List.getElem?_map, Array.getElem?_toList, hv] at hs
  simp at hs
  subst hs
  exact ⟨rep_ofV' v, hone v (by simpa using Array.mem_of_getElem? hv)⟩

/-! ### a block is laid -/
theorem upd_one (h : Hp) (i : Nat) (b : Blk) : upd [(i, b)] h = h.set i b := rfl

theorem new_fix {w : World} {X : Nat → Prop} {σ : Sg} {h2 : Hp} (hI : Inv w X σ h2) {nid : Nat} (hf : h2[nid]? = some .fresh) {t : TypeId} {cs : List SV} {vs : Array Value}
    (hl : cs.length = vs.size) (hc : ∀ (i : Nat) (s : SV) (v : Value), cs[i]? = some s → vs[i]? = some v → Rep w (Ex X σ) σ s v ∧ v.oneCell' = true) :
    ∃ σ', Rep (w.alloc (.cells vs t)) (Ex X σ') σ' (.ptr nid 0) (.pointer (some ⟨w.heap.size, 0, none⟩)) ∧ Inv (w.alloc (.cells vs t)) X σ' (upd [(nid, .fix t cs)] h2) ∧ Step σ.length w σ (w.alloc (.cells vs t)) σ' ∧ σ'.length = σ.length := by
  have hS := alloc_step (w' := w.alloc (.cells vs t)) hI hf (e := .fix w.heap.size) rfl rfl rfl rfl rfl
  have hσ := fresh_of hI hf
  have hlt : nid < σ.length := (List.getElem?_eq_some_iff.1 hσ).1
  refine ⟨σ.set nid (.fix w.heap.size), .ptr (by simp [hlt]), ?_, hS, by simp⟩
  rw [upd_one]
  refine alloc_inv (w' := w.alloc (.cells vs t)) hI hf (e := .fix w.heap.size) (b := .fix t cs) rfl rfl rfl rfl rfl ⟨vs, heap_alloc_new w _, hl, fun i s v hs hv => ⟨(hc i s v hs hv).1.step hS (Nat.le_refl _), (hc i s v hs hv).2⟩⟩

theorem new_row {w : World} {X : Nat → Prop} {σ : Sg} {h2 : Hp} (hI : Inv w X σ h2) {nid : Nat} (hf : h2[nid]? = some .fresh) {t : TypeId} {sz cap : Nat} {es : List (List SV)} {vs : Array Value}
    (hcap : es.length ≤ cap) (hmax : cap ≤ maxLen) (hl : vs.size = cap * sz)
    (hc : ∀ (i : Nat) (e : List SV), es[i]? = some e → e.length = sz ∧ ∀ (j : Nat) (s : SV), e[j]? = some s → ∃ v, vs[i * sz + j]? = some v ∧ Rep w (Ex X σ) [] s v ∧ v.oneCell' = true) :
    ∃ σ', Rep (w.alloc (.cells vs t)) (Ex X σ') σ' (.sl nid) (.slice (some ⟨w.heap.size, 0, none⟩) es.length cap) ∧ Inv (w.alloc (.cells vs t)) X σ' (upd [(nid, .row t sz es)] h2) ∧ Step σ.length w σ (w.alloc (.cells vs t)) σ' ∧ σ'.length = σ.length := by
  have hS := alloc_step (w' := w.alloc (.cells vs t)) hI hf (e := .row w.heap.size sz es.length cap) rfl rfl rfl rfl rfl
  have hσ := fresh_of hI hf
  have hlt : nid < σ.length := (List.getElem?_eq_some_iff.1 hσ).1
  refine ⟨σ.set nid (.row w.heap.size sz es.length cap), .sl (sz := sz) (by simp [hlt]), ?_, hS, by simp⟩
  rw [upd_one]
  refine alloc_inv (w' := w.alloc (.cells vs t)) hI hf (e := .row w.heap.size sz es.length cap) (b := .row t sz es) rfl rfl rfl rfl rfl ⟨rfl, rfl, hcap, hmax, vs, .of (heap_alloc_new w _), hl, fun i e he => ⟨(hc i e he).1, fun j s hs => ?_⟩⟩
  obtain ⟨v, a, b, c⟩ := (hc i e he).2 j s hs
  exact ⟨v, a, b.step0 hS, c⟩

/-! ### what 'fill' makes -/
theorem fill_one (cells : Array Value) (off : Nat) (v : Value) (hle : off + v.cells.size ≤ cells.size) :
    (v.cells.zipIdx.foldl (fun cs (x : Value × Nat) => cs.setIfInBounds (off + x.2) x.1) cells).size = cells.size ∧
    ∀ k, (v.cells.zipIdx.foldl (fun cs (x : Value × Nat) => cs.setIfInBounds (off + x.2) x.1) cells)[k]? = if off ≤ k ∧ k < off + v.cells.size then v.cells[k - off]? else cells[k]? := by
  have h := Go.Great.foldl_set off v.cells.toList 0 cells
  rw [← Array.foldl_toList, Array.toList_zipIdx]
  refine ⟨h.1, fun k => ?_⟩
  rw [h.2 k]
  simp only [Nat.add_zero, Array.length_toList, Array.getElem?_toList]
  by_cases hk : off ≤ k ∧ k < off + v.cells.size
  · rw [if_pos ⟨hk.1, hk.2, by omega⟩, if_pos hk]
  · rw [if_neg (fun h => hk ⟨h.1, h.2.1⟩), if_neg hk]
theorem put_get {α : Type} (cs : List α) (off : Nat) (c : List α) (hle : off + c.length ≤ cs.length) (k : Nat) :
    (cs.take off ++ (c ++ cs.drop (off + c.length)))[k]? = if off ≤ k ∧ k < off + c.length then c[k - off]? else cs[k]? := by
  have ht : (cs.take off).length = off := by simp; omega
  by_cases h1 : k < off
  · rw [List.getElem?_append_left (by omega), if_neg (by omega), List.getElem?_take, if_pos h1]
  · rw [List.getElem?_append_right (by omega), ht]
    by_cases h2 : k < off + c.length
    · rw [List.getElem?_append_left (by omega), if_pos ⟨by omega, h2⟩]
    · rw [List.getElem?_append_right (by omega), if_neg (by omega), List.getElem?_drop]
      congr 1; omega
theorem put_len {α : Type} (cs : List α) (off : Nat) (c : List α) (hle : off + c.length ≤ cs.length) : (cs.take off ++ (c ++ cs.drop (off + c.length))).length = cs.length := by
  simp; omega

theorem buildK_sound {F : Fr} {fs : List (Nat × TypeId × Nat)} (ps : List (Nat × Operand)) : ∀ {cs : List SV} {k : List SV → Prop}, buildK F fs ps cs k →
    ∃ cs', k cs' ∧ ∀ (w : World) (E : Nat → Prop) (σ : Sg) (ρ : Operand → Value) (vs : Array Value), (∀ p ∈ ps, OpnRep w E σ F ρ p.2) →
      (cs.length = vs.size ∧ ∀ (i : Nat) (s : SV) (v : Value), cs[i]? = some s → vs[i]? = some v → Rep w E σ s v ∧ v.oneCell' = true) →
      ∃ vs', Instr.fill (fun i => (fs[i]?).map fun q => (q.1, q.2.2)) vs (ps.map fun p => (p.1, ρ p.2)) = some vs' ∧
        cs'.length = vs'.size ∧ ∀ (i : Nat) (s : SV) (v : Value), cs'[i]? = some s → vs'[i]? = some v → Rep w E σ s v ∧ v.oneCell' = true := by
  induction ps with
  | nil => intro cs k h; exact ⟨cs, h, fun w E σ ρ vs _ hc => ⟨vs, rfl, hc.1, hc.2⟩⟩
  | cons p ps ih =>
    intro cs k h
    obtain ⟨q, hq, h⟩ := nthK_sound (show nthK fs p.1 _ from h)
    obtain ⟨s, h, hs⟩ := evK_sound h
    -- the cells of s
    have hcells : ∃ c : List SV, (eqNK c.length q.2.2 (putK cs q.1 c fun cs' => buildK F fs ps cs' k)) ∧
        ∀ (w : World) (E : Nat → Prop) (σ : Sg) (v : Value), Rep w E σ s v → c.length = v.cells.size ∧ ∀ (i : Nat) (s : SV) (u : Value), c[i]? = some s → v.cells[i]? = some u → Rep w E σ s u ∧ u.oneCell' = true := by
      revert h
      generalize hG : (fun c : List SV => eqNK c.length q.2.2 (putK cs q.1 c fun cs' => buildK F fs ps cs' k)) = G
      intro h
      replace h : cellsK s G := by rw [← hG]; exact h
      have : ∃ c, G c ∧ ∀ (w : World) (E : Nat → Prop) (σ : Sg) (v : Value) (G' : List SV → Prop), G' c → Rep w E σ s v → cellsK s G' := by
        cases s <;> simp only [cellsK] at h ⊢ <;> first | exact h.elim | exact ⟨_, h, fun _ _ _ _ _ h' _ => h'⟩
      obtain ⟨c, hGc, hc⟩ := this
      refine ⟨c, by rw [← hG] at hGc; exact hGc, fun w E σ v hr => ?_⟩
      obtain ⟨c', hc', hl, hcr⟩ := oneCell_of_cellsK hr (hc w E σ v (· = c) rfl hr)
      subst hc'
      exact ⟨hl, hcr⟩
    obtain ⟨c, h, hc⟩ := hcells
    obtain ⟨hlen, h⟩ := eqNK_sound h
    obtain ⟨hle, h⟩ := putK_sound h
    obtain ⟨cs', hk, hih⟩ := ih h
    refine ⟨cs', hk, fun w E σ ρ vs ho hv => ?_⟩
    have hrep := hs w E σ ρ (ho p (by simp))
    obtain ⟨hcl, hcr⟩ := hc w E σ _ hrep
    have hf := fill_one vs q.1 (ρ p.2) (by rw [← hcl, ← hv.1]; exact hle)
    obtain ⟨vs', hfill, r1, r2⟩ := hih w E σ ρ ((ρ p.2).cells.zipIdx.foldl (fun cs (x : Value × Nat) => cs.setIfInBounds (q.1 + x.2) x.1) vs) (fun p' hp' => ho p' (by simp [hp']))
      ⟨by rw [hf.1, put_len _ _ _ hle, hv.1], fun i s v hs' hv' => by
        rw [put_get _ _ _ hle] at hs'
        rw [hf.2, ← hcl] at hv'
        split at hs'
        · rename_i hin
          rw [if_pos hin] at hv'
          exact hcr _ s v hs' hv'
        · rename_i hin
          rw [if_neg hin] at hv'
          exact hv.2 i s v hs' hv'⟩
    refine ⟨vs', ?_, r1, r2⟩
    simp only [List.map_cons, Instr.fill, hq, Option.map_some]
    rw [if_neg (by rw [← hcl, hlen, ← hv.1]; rw [hlen] at hle; simp; omega)]
    exact hfill

/-- The cells of a value, whatever it stands for. -/
theorem cellsK_all {s : SV} {G : List SV → Prop} (h : cellsK s G) : ∃ c : List SV, G c ∧
    ∀ (w : World) (E : Nat → Prop) (σ : Sg) (v : Value), Rep w E σ s v → c.length = v.cells.size ∧ ∀ (i : Nat) (s : SV) (u : Value), c[i]? = some s → v.cells[i]? = some u → Rep w E σ s u ∧ u.oneCell' = true := by
  have : ∃ c, G c ∧ ∀ (w : World) (E : Nat → Prop) (σ : Sg) (v : Value) (G' : List SV → Prop), G' c → Rep w E σ s v → cellsK s G' := by
    cases s <;> simp only [cellsK] at h ⊢ <;> first | exact h.elim | exact ⟨_, h, fun _ _ _ _ _ h' _ => h'⟩
  obtain ⟨c, hGc, hc⟩ := this
  refine ⟨c, hGc, fun w E σ v hr => ?_⟩
  obtain ⟨c', hc', hl, hcr⟩ := oneCell_of_cellsK hr (hc w E σ v (· = c) rfl hr)
  subst hc'
  exact ⟨hl, hcr⟩

def RowOK (w : World) (E : Nat → Prop) (sz : Nat) (es : List (List SV)) (vs : Array Value) : Prop :=
  ∀ (i : Nat) (e : List SV), es[i]? = some e → e.length = sz ∧ ∀ (j : Nat) (s : SV), e[j]? = some s → ∃ v, vs[i * sz + j]? = some v ∧ Rep w E [] s v ∧ v.oneCell' = true

theorem elem_range {i k sz n : Nat} (h : k < i) (hi : i < n) : (k + 1) * sz ≤ i * sz ∧ (i + 1) * sz ≤ n * sz :=
  ⟨Nat.mul_le_mul_right _ h, Nat.mul_le_mul_right _ hi⟩

theorem elemsK_sound {F : Fr} {sz : Nat} (ps : List (Nat × Operand)) : ∀ {es : List (List SV)} {k : List (List SV) → Prop}, elemsK F sz ps es k →
    ∃ es', k es' ∧ es'.length = es.length ∧ ∀ (w : World) (E : Nat → Prop) (σ : Sg) (ρ : Operand → Value) (vs : Array Value), (∀ p ∈ ps, OpnRep w E σ F ρ p.2) →
      vs.size = es.length * sz → RowOK w E sz es vs →
      ∃ vs', Instr.fill (fun i => some (i * sz, sz)) vs (ps.map fun p => (p.1, ρ p.2)) = some vs' ∧ vs'.size = es'.length * sz ∧ RowOK w E sz es' vs' := by
  induction ps with
  | nil => intro es k h; exact ⟨es, h, rfl, fun w E σ ρ vs _ hs hc => ⟨vs, rfl, hs, hc⟩⟩
  | cons p ps ih =>
    intro es k h
    obtain ⟨s, h, hs⟩ := evK_sound (show evK F p.2 _ from h)
    obtain ⟨c, h, hc⟩ := cellsK_all h
    obtain ⟨hlen, h⟩ := eqNK_sound h
    obtain ⟨h, hpure⟩ := puresK_sound h
    obtain ⟨hle, h⟩ := setK_sound h
    obtain ⟨es', hk, hl', hih⟩ := ih h
    refine ⟨es', hk, by rw [hl']; simp, fun w E σ ρ vs ho hvs hrow => ?_⟩
    have hrep := hs w E σ ρ (ho p (by simp))
    obtain ⟨hcl, hcr⟩ := hc w E σ _ hrep
    have hroom : p.1 * sz + sz ≤ es.length * sz := by rw [← Nat.succ_mul]; exact Nat.mul_le_mul_right _ hle
    have hf := fill_one vs (p.1 * sz) (ρ p.2) (by rw [← hcl, hlen, hvs]; exact hroom)
    obtain ⟨vs', hfill, r1, r2⟩ := hih w E σ ρ ((ρ p.2).cells.zipIdx.foldl (fun cs (x : Value × Nat) => cs.setIfInBounds (p.1 * sz + x.2) x.1) vs) (fun p' hp' => ho p' (by simp [hp']))
      (by rw [hf.1, hvs]; simp) (fun i e he => by
        rw [List.getElem?_set] at he
        by_cases hi : p.1 = i
        · subst hi
          rw [if_pos rfl, if_pos hle] at he
          simp at he; subst he
          refine ⟨hlen, fun j s' hs' => ?_⟩
          have hj : j < c.length := (List.getElem?_eq_some_iff.1 hs').1
          refine ⟨(ρ p.2).cells[j]'(by omega), ?_, ?_⟩
          · rw [hf.2, if_pos ⟨by omega, by omega⟩, show p.1 * sz + j - p.1 * sz = j by omega]
            exact Array.getElem?_eq_getElem (by omega)
          · have := hcr j s' _ hs' (Array.getElem?_eq_getElem (by omega))
            exact ⟨hpure s' (List.mem_of_getElem? hs') w E σ [] _ this.1, this.2⟩
        · rw [if_neg hi] at he
          obtain ⟨h1, h2⟩ := hrow i e he
          refine ⟨h1, fun j s' hs' => ?_⟩
          obtain ⟨v, hv, hv2⟩ := h2 j s' hs'
          refine ⟨v, ?_, hv2⟩
          have hj : j < sz := by rw [← h1]; exact (List.getElem?_eq_some_iff.1 hs').1
          rw [hf.2, if_neg, hv]
          rw [← hcl, hlen]
          rcases Nat.lt_or_ge i p.1 with hlt | hge
          · have := Nat.mul_le_mul_right sz (show i + 1 ≤ p.1 from hlt)
            rw [Nat.succ_mul] at this; omega
          · have := Nat.mul_le_mul_right sz (show p.1 + 1 ≤ i by omega)
            rw [Nat.succ_mul] at this; omega)
    refine ⟨vs', ?_, r1, r2⟩
    simp only [List.map_cons, Instr.fill]
    rw [if_neg (by rw [← hcl, hlen, hvs]; simp; omega)]
    exact hfill
end
end Go.Sx

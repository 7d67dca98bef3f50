/- The symbolic executor is sound: each operation. No statement of the seat is proved here. -/
import Derived.Test.YthlomoacacebeacSxF
namespace Go.Sx
section
variable {P : Program} {T : Tab}

theorem run_val {m : Sem Value} {w w' : World} {v : Value} (h : m.run P w = .ok v w') : ((do pure (.value (← m)) : Sem Next)).run P w = .ok (.value v) w' := by
  simp [h]
theorem run_unit {m : Sem Unit} {w w' : World} (h : m.run P w = .ok () w') : ((do m; pure .skip : Sem Next)).run P w = .ok .skip w' := by
  simp [h]

theorem cell_at {w : World} {g : Nat} {vs : Array Value} {t : TypeId} {fr : Nat × Nat} (h : w.heap[g]? = some (.cells vs t fr)) (off j : Nat) : w.cell? ((⟨g, off, none⟩ : Addr).add j) = vs[off + j]? := by
  unfold Addr.add
  split
  · rename_i hj; subst hj; simp [World.cell?, h]
  · simp [World.cell?, h]
theorem cell_at0 {w : World} {g : Nat} {vs : Array Value} {t : TypeId} {fr : Nat × Nat} (h : w.heap[g]? = some (.cells vs t fr)) (off : Nat) : w.cell? ⟨g, off, none⟩ = vs[off]? := by
  simp [World.cell?, h]
theorem addr_add (g off n : Nat) : (⟨g, off, none⟩ : Addr).add n = ⟨g, off + n, none⟩ := by
  unfold Addr.add
  split
  · rename_i h; subst h; rfl
  · rfl

/-- A block that is known. -/
theorem fix_of {w : World} {X : Nat → Prop} {σ : Sg} {h : Hp} (hI : Inv w X σ h) {b : Nat} {t : TypeId} {cs : List SV} (hb : h[b]? = some (.fix t cs)) :
    ∃ g vs, σ[b]? = some (.fix g) ∧ w.heap[g]? = some (.cells vs t (0, 0)) ∧ cs.length = vs.size ∧ ∀ (i : Nat) (s : SV) (v : Value), cs[i]? = some s → vs[i]? = some v → Rep w (Ex X σ) σ s v ∧ v.oneCell' = true := by
  have hlt : b < σ.length := by rw [hI.len]; exact (List.getElem?_eq_some_iff.1 hb).1
  have he : σ[b]? = some (σ[b]'hlt) := List.getElem?_eq_getElem hlt
  have := hI.ok b _ _ hb he
  cases hσ : σ[b]'hlt <;> rw [hσ] at this he <;> simp only [BlkOK] at this
  obtain ⟨vs, h1, h2, h3⟩ := this
  exact ⟨_, vs, he, h1, h2, h3⟩
theorem row_of {w : World} {X : Nat → Prop} {σ : Sg} {h : Hp} (hI : Inv w X σ h) {b : Nat} {t : TypeId} {sz : Nat} {es : List (List SV)} (hb : h[b]? = some (.row t sz es)) :
    (∃ g cap vs, σ[b]? = some (.row g sz es.length cap) ∧ es.length ≤ cap ∧ cap ≤ maxLen ∧ RowAt w g vs t ∧ vs.size = cap * sz ∧ RowOK w (Ex X σ) sz es vs) ∨
    (σ[b]? = some .rownil ∧ es = []) := by
  have hlt : b < σ.length := by rw [hI.len]; exact (List.getElem?_eq_some_iff.1 hb).1
  have he : σ[b]? = some (σ[b]'hlt) := List.getElem?_eq_getElem hlt
  have := hI.ok b _ _ hb he
  cases hσ : σ[b]'hlt <;> rw [hσ] at this he <;> simp only [BlkOK] at this
  · obtain ⟨rfl, rfl, h3, h4, vs, h5, h6, h7⟩ := this
    exact .inl ⟨_, _, vs, he, h3, h4, h5, h6, h7⟩
  · exact .inr ⟨he, this⟩

theorem rep0 {w : World} {E : Nat → Prop} {σ : Sg} {s : SV} {v : Value} (h : Rep w E [] s v) : Rep w E σ s v :=
  h.mono σ (fun _ _ _ => rfl) (Nat.le_refl _) (fun _ _ h => h) (by simp)

/-! ### loads -/
theorem load_ok (hT : TabOK P T) {F : Fr} {h : Hp} {nid : Nat} {t : TypeId} {x : Operand} {K : Kop} (hk : opK T F h nid (.load t x) K) :
    ∃ s ws rds, K s ws rds ∧ OpOK P F h (.load t x) s ws rds := by
  obtain ⟨sx, hk, hx⟩ := evK_sound (show evK F x _ from hk)
  have hop : ∀ (w : World) (E : Nat → Prop) (σ : Sg) (ρ : Operand → Value), (∀ y ∈ (Op.load t x).operands.toList, OpnRep w E σ F ρ y) → Rep w E σ sx (ρ x) := fun w E σ ρ ho => hx w E σ ρ (ho x (by simp [Op.operands]))
  cases sx with
  | ptr b off =>
    obtain ⟨blk, hb, hk⟩ := nthK_sound (show nthK h b _ from hk)
    cases blk with
    | fix T0 cs =>
      obtain ⟨s, n, ag, hk, hag, hn, h1, h2⟩ := partK_sound hT (show partK T cs off t _ from hk)
      refine ⟨s, [], [b], hk, fun w X σ h2' ρ d ty pos after guard hI ho hrd => ?_, by simp⟩
      have hr := hop w _ σ ρ ho
      have hb' : h2'[b]? = some (.fix T0 cs) := (hrd b (by simp)).trans hb
      obtain ⟨g, vs, hσ, hg, hl, hc⟩ := fix_of hI hb'
      have hv : ρ x = .pointer (some ⟨g, off, none⟩) := by
        generalize hρ : ρ x = vx at hr
        cases hr with
        | ptr h' => rw [hσ] at h'; simp at h'; rw [h']
        | ptrD h' => rw [hσ] at h'; simp at h'
      obtain ⟨v, hrun, hrep⟩ := load_sound (P := P) (w := w) (σ := σ) (a := ⟨g, off, none⟩) (fun j => (vs[off + j]?).getD Go.undef) (hag w) (hn w) h1 h2 (fun j s hs => by
        have hj : off + j < vs.size := by rw [← hl]; exact (List.getElem?_eq_some_iff.1 hs).1
        have hvj : vs[off + j]? = some (vs[off + j]'hj) := Array.getElem?_eq_getElem hj
        rw [cell_at hg, hvj]
        exact ⟨rfl, hc _ _ _ hs hvj⟩)
      exact .pure (run_val (by simp [Instr.loadAt, hv, Instr.sureAddr, hrun])) hI hrep
    | _ => exact hk.elim
  | ep b i f =>
    obtain ⟨blk, hb, hk⟩ := nthK_sound (show nthK h b _ from hk)
    cases blk with
    | row T0 sz es =>
      obtain ⟨e, he, hk⟩ := (show ElG es i _ from hk)
      obtain ⟨s, n, ag, hk, hag, hn, h1, h2⟩ := partK_sound hT (show partK T e f t _ from hk)
      refine ⟨s, [], [b], hk, fun w X σ h2' ρ d ty pos after guard hI ho hrd => ?_, by simp⟩
      have hr := hop w _ σ ρ ho
      have hb' : h2'[b]? = some (.row T0 sz es) := (hrd b (by simp)).trans hb
      rcases row_of hI hb' with ⟨g, cap, vs, hσ, hcap, hmax, hg, hl, hrow⟩ | ⟨_, hes⟩
      · have hv : ρ x = .pointer (some ⟨g, i * sz + f, none⟩) := by
          generalize hρ : ρ x = vx at hr
          cases hr with
          | ep h' => rw [hσ] at h'; simp at h'; obtain ⟨rfl, rfl, _⟩ := h'; rfl
          | epD h' => rw [hσ] at h'; simp at h'
        obtain ⟨hel, hcell⟩ := hrow i e he
        obtain ⟨v, hrun, hrep⟩ := load_sound (P := P) (w := w) (E := Ex X σ) (σ := σ) (a := ⟨g, i * sz + f, none⟩) (fun j => (vs[i * sz + f + j]?).getD Go.undef) (hag w) (hn w) h1 h2 (fun j s hs => by
          obtain ⟨v, hv, hr, h1⟩ := hcell (f + j) s hs
          rw [← Nat.add_assoc] at hv
          obtain ⟨fr, hg, _⟩ := hg
          rw [cell_at hg, hv]
          exact ⟨rfl, rep0 hr, h1⟩)
        exact .pure (run_val (by simp [Instr.loadAt, hv, Instr.sureAddr, hrun])) hI hrep
      · subst hes; simp at he
    | _ => exact hk.elim
  | rp sz es i f =>
    obtain ⟨e, he, hk⟩ := (show ElG es i _ from hk)
    obtain ⟨s, n, ag, hk, hag, hn, h1, h2⟩ := partK_sound hT (show partK T e f t _ from hk)
    refine ⟨s, [], [], hk, OpOK.pure fun w E σ ρ d ty pos after guard ho => ?_⟩
    have hr := hop w E σ ρ ho
    generalize hρ : ρ x = vx at hr
    cases hr with
    | rp hE hlt hlen hcell hone hrep =>
      rename_i ad val
      obtain ⟨v, hrun, hrep⟩ := load_sound (P := P) (w := w) (E := E) (σ := σ) (a := ad.add (i * sz + f)) (fun j => val i (f + j)) (hag w) (hn w) h1 h2 (fun j s hs => by
        rw [add_add, Nat.add_assoc]
        exact ⟨hcell i e _ s he hs, rep0 (hrep i e _ s he hs), hone i e _ s he hs⟩)
      exact ⟨v, run_val (by simp [Instr.loadAt, hρ, Instr.sureAddr, hrun]), hrep⟩
  | _ => exact hk.elim

/-! ### stores -/
theorem setRow_facts {w : World} {g : Nat} {cs : Array Value} : (w.setRow g cs).os = w.os ∧ (w.setRow g cs).tape = w.tape ∧ (w.setRow g cs).output = w.output ∧ (w.setRow g cs).heap.size = w.heap.size ∧ ∀ k, k ≠ g → (w.setRow g cs).heap[k]? = w.heap[k]? :=
  ⟨rfl, rfl, rfl, by simp, fun k hk => setRow_other w g k cs hk⟩

theorem RowAt.set {w : World} {g : Nat} {vs vs' : Array Value} {t : TypeId} (h : RowAt w g vs t) (hs : vs'.size = vs.size) : RowAt (w.setRow g vs') g vs' t := by
  obtain ⟨fr, h1, h2⟩ := h
  exact ⟨fr, setRow_heap w g vs vs' t fr h1, fun k hk => h2 k (by omega)⟩
theorem run_storeCells_fr (g o : Nat) (t : TypeId) : ∀ (vs : List Value) (i : Nat) (cur : Array Value) (w : World), RowAt w g cur t → o + i + vs.length ≤ cur.size → (∀ v ∈ vs, v.oneCell' = true) →
    (storeCells ⟨g, o, none⟩ vs i).run P w = .ok () (w.setRow g (cur.toList.take (o + i) ++ vs ++ cur.toList.drop (o + i + vs.length)).toArray)
  | [], i, cur, w, hg, _, _ => by
    obtain ⟨fr, hg, _⟩ := hg
    simp only [storeCells, List.append_nil, List.length_nil, Nat.add_zero, List.take_append_drop, Array.toArray_toList]
    rw [setRow_self w g cur t fr hg]
    rfl
  | v :: rest, i, cur, w, hg, hl, h1 => by
    have hi : o + i < cur.size := by simp at hl; omega
    have hadd : (⟨g, o, none⟩ : Addr).add i = ⟨g, o + i, none⟩ := by unfold Addr.add; split <;> simp_all
    have ih := run_storeCells_fr g o t rest (i + 1) (cur.setIfInBounds (o + i) v) (w.setRow g (cur.setIfInBounds (o + i) v)) (hg.set (by simp)) (by simp at hl ⊢; omega) (fun x hx => h1 x (by simp [hx]))
    obtain ⟨fr, hg, hfr⟩ := hg
    have hcell : w.cell? ⟨g, o + i, none⟩ = some cur[o + i] := by simp [World.cell?, hg, hi]
    have hfro : w.frozen? ⟨g, o + i, none⟩ = false := by
      have := hfr (o + i) hi
      simp [World.frozen?, hg]
      omega
    have hst : (store ((⟨g, o, none⟩ : Addr).add i) v).run P w = .ok () (w.setRow g (cur.setIfInBounds (o + i) v)) := by
      rw [hadd, run_store P w _ v _ (h1 v (by simp)), hcell]
      simp [hfro, setCell_eq_setRow w g (o + i) cur t fr v hg]
    simp only [storeCells, Sem.run_bind, hst, Result.andThen_ok, ih, setRow_setRow]
    congr 3
    have e := list_seg_step cur.toList (o + i) v rest (by simp at hl ⊢; omega)
    simpa [Array.toList_setIfInBounds, Nat.add_assoc] using e
theorem store_ok (hT : TabOK P T) {F : Fr} {h : Hp} {nid : Nat} {t : TypeId} {x y : Operand} {K : Kop} (hk : opK T F h nid (.store t x y) K) :
    ∃ s ws rds, K s ws rds ∧ OpOK P F h (.store t x y) s ws rds := by
  obtain ⟨sx, hk, hx⟩ := evK_sound (show evK F x _ from hk)
  obtain ⟨sy, hk, hy⟩ := evK_sound (show evK F y _ from hk)
  obtain ⟨c, hk, hc⟩ := cellsK_all hk
  obtain ⟨n, ag, hk, _, hn⟩ := isAggK_sound hT hk
  obtain ⟨hlen, hk⟩ := eqNK_sound hk
  have hopx : ∀ (w : World) (E : Nat → Prop) (σ : Sg) (ρ : Operand → Value), (∀ z ∈ (Op.store t x y).operands.toList, OpnRep w E σ F ρ z) → Rep w E σ sx (ρ x) := fun w E σ ρ ho => hx w E σ ρ (ho x (by simp [Op.operands]))
  have hopy : ∀ (w : World) (E : Nat → Prop) (σ : Sg) (ρ : Operand → Value), (∀ z ∈ (Op.store t x y).operands.toList, OpnRep w E σ F ρ z) → Rep w E σ sy (ρ y) := fun w E σ ρ ho => hy w E σ ρ (ho y (by simp [Op.operands]))
  -- the run itself
  have hrun : ∀ (w : World) (ρ : Operand → Value) (g off : Nat) (vs : Array Value) (t0 : TypeId), ρ x = .pointer (some ⟨g, off, none⟩) → c.length = (ρ y).cells.size → (∀ v ∈ (ρ y).cells.toList, v.oneCell' = true) →
      RowAt w g vs t0 → off + c.length ≤ vs.size →
      (Instr.storeAt t (ρ x) (ρ y)).run P w = .ok () (w.setRow g (vs.toList.take off ++ (ρ y).cells.toList ++ vs.toList.drop (off + c.length)).toArray) := by
    intro w ρ g off vs t0 hp hl hone hg hroom
    have hst := run_storeCells_fr (P := P) g off t0 (ρ y).cells.toList 0 vs w hg (by simp; omega) hone
    simp only [Nat.add_zero, Array.length_toList, ← hl] at hst
    simp only [Instr.storeAt, hp, Instr.sureAddr, storeVar, Sem.run_bind, Sem.run_pure, Result.andThen_ok, hn w]
    rw [if_neg (by rw [← hl, hlen]; simp)]
    exact hst
  cases sx with
  | ptr b off =>
    obtain ⟨blk, hb, hk⟩ := nthK_sound (show nthK h b _ from hk)
    cases blk with
    | fix T0 cs =>
      obtain ⟨hle, hk⟩ := putK_sound (show putK cs off c _ from hk)
      refine ⟨_, _, _, hk, fun w X σ h2' ρ d ty pos after guard hI ho hrd => ?_, by simp⟩
      have hr := hopx w _ σ ρ ho
      have hb' : h2'[b]? = some (.fix T0 cs) := (hrd b (by simp)).trans hb
      obtain ⟨g, vs, hσ, hg, hl, hcv⟩ := fix_of hI hb'
      have hv : ρ x = .pointer (some ⟨g, off, none⟩) := by
        generalize hρ : ρ x = vx at hr
        cases hr with
        | ptr h' => rw [hσ] at h'; simp at h'; rw [h']
        | ptrD h' => rw [hσ] at h'; simp at h'
      obtain ⟨hcl, hcr⟩ := hc w _ σ _ (hopy w _ σ ρ ho)
      have hone : ∀ v ∈ (ρ y).cells.toList, v.oneCell' = true := fun v hv => by
        obtain ⟨i, hi, rfl⟩ := List.getElem_of_mem hv
        have hi' : i < (ρ y).cells.size := by simpa using hi
        have := hcr i (c[i]'(by omega)) ((ρ y).cells[i]) (List.getElem?_eq_getElem (by omega)) (Array.getElem?_eq_getElem hi')
        simpa using this.2
      have hr := hrun w ρ g off vs T0 hv hcl hone (.of hg) (by omega)
      obtain ⟨f1, f2, f3, f4, f5⟩ := setRow_facts (w := w) (g := g) (cs := (vs.toList.take off ++ (ρ y).cells.toList ++ vs.toList.drop (off + c.length)).toArray)
      have hS := write_step hσ rfl f1 f2 f3 f4 f5
      unfold OpRes DoneS
      rw [show execOp ρ ⟨d, .store t x y, ty, pos, after, guard⟩ = (do Instr.storeAt t (ρ x) (ρ y); pure .skip) from rfl, run_unit hr]
      refine ⟨σ, .undef, ?_, hS, rfl⟩
      rw [upd_one]
      refine write_inv hI hσ rfl f1 f2 f3 f4 f5 (b := .fix T0 (cs.take off ++ (c ++ cs.drop (off + c.length)))) ⟨_, setRow_heap w g vs _ T0 (0, 0) hg, ?_, fun i s v hs hv' => ?_⟩
      · rw [put_len _ _ _ hle]
        simp; omega
      · rw [put_get _ _ _ hle] at hs
        have e : (vs.toList.take off ++ (ρ y).cells.toList ++ vs.toList.drop (off + c.length)).toArray[i]? = if off ≤ i ∧ i < off + c.length then (ρ y).cells[i - off]? else vs[i]? := by
          have := put_get vs.toList off (ρ y).cells.toList (by simp; omega) i
          simp only [Array.length_toList, Array.getElem?_toList] at this
          rw [List.getElem?_toArray, List.append_assoc]
          rw [← hcl] at this
          exact this
        rw [e] at hv'
        split at hs
        · rename_i hin
          rw [if_pos hin] at hv'
          have := hcr _ s v hs hv'
          exact ⟨this.1.step hS (Nat.le_refl _), this.2⟩
        · rename_i hin
          rw [if_neg hin] at hv'
          have := hcv i s v hs hv'
          exact ⟨this.1.step hS (Nat.le_refl _), this.2⟩
    | _ => exact hk.elim
  | ep b i f =>
    obtain ⟨blk, hb, hk⟩ := nthK_sound (show nthK h b _ from hk)
    cases blk with
    | row T0 sz es =>
      obtain ⟨hk, hpure⟩ := puresK_sound hk
      obtain ⟨e, he, hk⟩ := (show ElG es i _ from hk)
      obtain ⟨hle, hk⟩ := putK_sound (show putK e f c _ from hk)
      refine ⟨_, _, _, hk, fun w X σ h2' ρ d ty pos after guard hI ho hrd => ?_, by simp⟩
      have hr := hopx w _ σ ρ ho
      have hb' : h2'[b]? = some (.row T0 sz es) := (hrd b (by simp)).trans hb
      have hilt : i < es.length := (List.getElem?_eq_some_iff.1 he).1
      rcases row_of hI hb' with ⟨g, cap, vs, hσ, hcap, hmax, hg, hl, hrow⟩ | ⟨_, hes⟩
      · have hv : ρ x = .pointer (some ⟨g, i * sz + f, none⟩) := by
          generalize hρ : ρ x = vx at hr
          cases hr with
          | ep h' => rw [hσ] at h'; simp at h'; obtain ⟨rfl, rfl, _⟩ := h'; rfl
          | epD h' => rw [hσ] at h'; simp at h'
        obtain ⟨hel, hcell⟩ := hrow i e he
        have hblk : i * sz + sz ≤ vs.size := by
          rw [hl]; calc i * sz + sz = (i + 1) * sz := by rw [Nat.succ_mul]
            _ ≤ cap * sz := Nat.mul_le_mul_right _ (by omega)
        obtain ⟨hcl, hcr⟩ := hc w _ σ _ (hopy w _ σ ρ ho)
        have hone : ∀ v ∈ (ρ y).cells.toList, v.oneCell' = true := fun v hv => by
          obtain ⟨i, hi, rfl⟩ := List.getElem_of_mem hv
          have hi' : i < (ρ y).cells.size := by simpa using hi
          have := hcr i (c[i]'(by omega)) ((ρ y).cells[i]) (List.getElem?_eq_getElem (by omega)) (Array.getElem?_eq_getElem hi')
          simpa using this.2
        have hr := hrun w ρ g (i * sz + f) vs T0 hv hcl hone hg (by omega)
        obtain ⟨f1, f2, f3, f4, f5⟩ := setRow_facts (w := w) (g := g) (cs := (vs.toList.take (i * sz + f) ++ (ρ y).cells.toList ++ vs.toList.drop (i * sz + f + c.length)).toArray)
        have hS := write_step hσ rfl f1 f2 f3 f4 f5
        unfold OpRes DoneS
        rw [show execOp ρ ⟨d, .store t x y, ty, pos, after, guard⟩ = (do Instr.storeAt t (ρ x) (ρ y); pure .skip) from rfl, run_unit hr]
        refine ⟨σ, .undef, ?_, hS, rfl⟩
        rw [upd_one]
        have eg : ∀ k, (vs.toList.take (i * sz + f) ++ (ρ y).cells.toList ++ vs.toList.drop (i * sz + f + c.length)).toArray[k]? = if i * sz + f ≤ k ∧ k < i * sz + f + c.length then (ρ y).cells[k - (i * sz + f)]? else vs[k]? := fun k => by
          have := put_get vs.toList (i * sz + f) (ρ y).cells.toList (by simp; omega) k
          simp only [Array.length_toList, Array.getElem?_toList] at this
          rw [List.getElem?_toArray, List.append_assoc]
          rw [← hcl] at this
          exact this
        refine write_inv hI hσ rfl f1 f2 f3 f4 f5 (b := .row T0 sz (es.set i (e.take f ++ (c ++ e.drop (f + c.length))))) ⟨rfl, by simp, by simpa using hcap, hmax, _, hg.set (by simp; omega), by simp; omega, fun k e' he' => ?_⟩
        rw [List.getElem?_set] at he'
        by_cases hik : i = k
        · subst hik
          rw [if_pos rfl, if_pos hilt] at he'
          simp only [Option.some.injEq] at he'; subst he'
          refine ⟨by rw [put_len _ _ _ hle, hel], fun j s hs => ?_⟩
          rw [put_get _ _ _ hle] at hs
          rw [eg]
          split at hs
          · rename_i hin
            have hj : j - f < c.length := by omega
            rw [if_pos (by omega), show i * sz + j - (i * sz + f) = j - f by omega]
            have hvj : (ρ y).cells[j - f]? = some ((ρ y).cells[j - f]'(by omega)) := Array.getElem?_eq_getElem (by omega)
            have := hcr _ s _ hs hvj
            exact ⟨_, hvj, (hpure s (List.mem_of_getElem? hs) w _ σ [] _ this.1).step0 hS, this.2⟩
          · rename_i hin
            rw [if_neg (by omega)]
            obtain ⟨v, h1, h2, h3⟩ := hcell j s hs
            exact ⟨v, h1, h2.step0 hS, h3⟩
        · rw [if_neg hik] at he'
          obtain ⟨hel', hcell'⟩ := hrow k e' he'
          refine ⟨hel', fun j s hs => ?_⟩
          obtain ⟨v, h1, h2, h3⟩ := hcell' j s hs
          have hj : j < sz := by rw [← hel']; exact (List.getElem?_eq_some_iff.1 hs).1
          refine ⟨v, ?_, h2.step0 hS, h3⟩
          rw [eg, if_neg, h1]
          rcases Nat.lt_or_ge k i with hlt | hge
          · have := Nat.mul_le_mul_right sz (show k + 1 ≤ i from hlt)
            rw [Nat.succ_mul] at this; omega
          · have := Nat.mul_le_mul_right sz (show i + 1 ≤ k by omega)
            rw [Nat.succ_mul] at this; omega
      · subst hes; simp at he
    | _ => exact hk.elim
  | _ => exact hk.elim
end
end Go.Sx

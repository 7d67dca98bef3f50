/- The symbolic executor is sound: literals, indexes, slices, builtins; all operations together. No statement of the seat is proved here. -/
import Derived.Test.YthlomoacacebeacSxH
import Derived.Great.BuildSlice
namespace Go.Sx
section
variable {P : Program} {T : Tab}

theorem info_of_zero {t : TypeId} {k : List SV → Prop} (h : zeroK (teOf P t).zero k) :
    ∃ i z, P.info? t = some i ∧ (teOf P t).size = i.size ∧ (teOf P t).bytes = i.bytes ∧ (teOf P t).zero = z.cells.toList.map ofV ∧ i.zero = some z ∧ (∀ v ∈ z.cells.toList, v.oneCell' = true) ∧ z.cells.size = i.size ∧ k (teOf P t).zero := by
  cases hi : P.info? t with
  | none => simp only [teOf, hi] at h; exact h.elim
  | some i =>
    have e : (teOf P t).zero = zeroOf i := by simp [teOf, hi]
    rw [e] at h ⊢
    obtain ⟨hk, z, h1, h2, h3, h4⟩ := zeroK_sound h
    exact ⟨i, z, rfl, by simp [teOf, hi], by simp [teOf, hi], h2, h1, h3, h4, hk⟩

theorem build_ok (hT : TabOK P T) {F : Fr} {h : Hp} {nid : Nat} {t : TypeId} {ps : Array (Nat × Operand)} {K : Kop} (hk : opK T F h nid (.build t ps) K) : OpGood P F h (.build t ps) K := by
  replace hk := tyK_sound hT (show tyK T t _ from hk)
  generalize hti : (teOf P t).ti = ti at hk
  cases ti with
  | struct fs =>
    obtain ⟨i, z, hi, _, _, hz, hz1, hz3, _, hk⟩ := info_of_zero hk
    rw [hz] at hk
    obtain ⟨cs, hk, hb⟩ := buildK_sound ps.toList hk
    obtain ⟨fields, hu, hfs, hinfo⟩ := und_struct (ti_of hti (by simp)).1
    have hplaces : fields.toList.mapM (fun f => (P.info? f.type).map fun i => (f.offset, i.size)) = some (fields.toList.map fun f => (f.offset, P.cellsOf f.type)) := by
      have : ∀ l : List Field, (∀ f ∈ l, (P.info? f.type).isSome = true) → l.mapM (fun f => (P.info? f.type).map fun i => (f.offset, i.size)) = some (l.map fun f => (f.offset, P.cellsOf f.type)) := by
        intro l
        induction l with
        | nil => intro _; rfl
        | cons f l ih =>
          intro hl
          obtain ⟨j, hj⟩ := Option.isSome_iff_exists.1 (hl f (by simp))
          simp [List.mapM_cons, hj, ih fun g hg => hl g (by simp [hg]), Program.cellsOf]
      exact this _ hinfo
    exact good_pure hk fun w E σ ρ d ty pos after guard ho => by
      obtain ⟨vs', hfill, hl, hc⟩ := hb w E σ ρ z.cells (fun p hp => ho p.2 (by simp only [Op.operands, List.mem_map]; exact ⟨p, hp, rfl⟩)) (zero_rep hz3)
      refine ⟨.agg vs', run_val (m := Instr.build t (ps.map fun (i, x) => (i, ρ x))) (run_build w t _ vs' ?_), .agg hl (fun j v hv => ?_) fun j s v hs hv => (hc j s v hs hv).1⟩
      · unfold Program.built
        simp only [hi, hu, hz1, hplaces]
        have e : (fun x => ((fields.toList.map fun f => (f.offset, P.cellsOf f.type)).toArray[x]? : Option (Nat × Nat))) = fun i : Nat => (fs[i]?).map fun q : Nat × TypeId × Nat => (q.1, q.2.2) := by
          funext x
          subst hfs
          simp only [List.getElem?_toArray, List.getElem?_map]
          cases fields.toList[x]? <;> rfl
        have e2 : (ps.map fun (i, x) => (i, ρ x)).toList = ps.toList.map fun p => (p.1, ρ p.2) := by simp
        rw [e, e2]; exact hfill
      · have hj : j < cs.length := by rw [hl]; exact (Array.getElem?_eq_some_iff.1 hv).1
        exact (hc j _ v (List.getElem?_eq_getElem hj) hv).2
  | _ => exact hk.elim

theorem zeros_row {w : World} {E : Nat → Prop} {z : Value} {n sz : Nat} (hsz : z.cells.size = sz) (hone : ∀ v ∈ z.cells.toList, v.oneCell' = true) :
    RowOK w E sz (List.replicate n (z.cells.toList.map ofV)) ((Array.range (n * sz)).map (z.cells[· % z.cells.size]!)) := by
  intro i e he
  have hi : i < n := by
    have := (List.getElem?_eq_some_iff.1 he).1; simpa using this
  rw [List.getElem?_replicate, if_pos hi] at he
  simp at he; subst he
  refine ⟨by simpa using hsz, fun j s hs => ?_⟩
  have hj : j < z.cells.size := by
    have := (List.getElem?_eq_some_iff.1 hs).1; simpa using this
  have hlt : i * sz + j < n * sz := by
    have := Nat.mul_le_mul_right sz (show i + 1 ≤ n from hi)
    rw [Nat.succ_mul] at this; omega
  have hmod : (i * sz + j) % z.cells.size = j := by
    rw [hsz, Nat.mul_comm, Nat.mul_add_mod]; exact Nat.mod_eq_of_lt (by omega)
  refine ⟨z.cells[j], ?_, ?_, hone _ (by simp)⟩
  · rw [Array.getElem?_eq_getElem (by simpa using hlt)]
    simp [hmod, hj]
  · rw [List.getElem?_map, Array.getElem?_toList, Array.getElem?_eq_getElem hj] at hs
    simp at hs; subst hs
    exact rep_ofV' _

theorem buildSlice_ok (hT : TabOK P T) {F : Fr} {h : Hp} {nid : Nat} (hf : h[nid]? = some .fresh) {t : TypeId} {n : Nat} {ps : Array (Nat × Operand)} {K : Kop} (hk : opK T F h nid (.buildSlice t n ps) K) : OpGood P F h (.buildSlice t n ps) K := by
  replace hk := tyK_sound hT (show tyK T t _ from hk)
  generalize hti : (teOf P t).ti = ti at hk
  cases ti with
  | slice e =>
    replace hk := tyK_sound hT (show tyK T e _ from hk)
    obtain ⟨i, z, hi, hsize, _, hz, hz1, hz3, hzsz, hk⟩ := info_of_zero hk
    obtain ⟨hsmall, hk⟩ := leNK_sound hk
    obtain ⟨hpos, hk⟩ := leNK_sound hk
    replace hk := repK_sound hk
    obtain ⟨es, hk, hlen, hb⟩ := elemsK_sound ps.toList hk
    have hu := und_slice (ti_of hti (by simp)).1
    refine ⟨_, _, _, hk, fun w X σ h2 ρ d ty pos after guard hI ho hrd => ?_, by simp⟩
    have hf' : h2[nid]? = some .fresh := (hrd nid (by simp)).trans hf
    rw [hsize] at hb hsmall hpos ⊢
    obtain ⟨vs, hfill, hl, hrow⟩ := hb w (Ex X σ) σ ρ ((Array.range (n * i.size)).map (z.cells[· % z.cells.size]!)) (fun p hp => ho p.2 (by simp only [Op.operands, List.mem_map]; exact ⟨p, hp, rfl⟩)) (by simp)
      (by rw [hz]; exact zeros_row hzsz hz3)
    have hl' : es.length = n := by rw [hlen]; simp
    unfold OpRes DoneS
    rw [show execOp ρ ⟨d, .buildSlice t n ps, ty, pos, after, guard⟩ = (do pure (.value (← Instr.buildSlice t n (ps.map fun (i, x) => (i, ρ x))))) from rfl]
    have hrun : (Instr.buildSlice t n (ps.map fun (i, x) => (i, ρ x))).run P w = .ok (.slice (some ⟨w.heap.size, 0, none⟩) n n) (w.alloc (.cells vs e)) := by
      have e2 : (ps.map fun (i, x) => (i, ρ x)).toList = ps.toList.map fun p => (p.1, ρ p.2) := by simp
      by_cases hn0 : n = 0
      · subst hn0
        have hr0 : (Array.range (0 * i.size)).map (z.cells[· % z.cells.size]!) = #[] := Array.eq_empty_of_size_eq_zero (by simp)
        rw [hr0] at hfill
        have hr1 : ∀ zero : Array Value, (Array.range 0).map (zero[· % zero.size]!) = #[] := fun _ => Array.eq_empty_of_size_eq_zero (by simp)
        simp only [Instr.buildSlice, Sem.run_bind, run_underlying' hu, Result.andThen_ok, run_sizeOf hi, Nat.zero_mul, hr1, e2, hfill]
        rfl
      · refine run_buildSlice w t e n _ vs i z hu hi hz1 (by simp; omega) (by have := Nat.mul_pos (Nat.pos_of_ne_zero hn0) hpos; omega) ?_
        rw [e2]; exact hfill
    rw [run_val hrun]
    have := new_row hI hf' (t := e) (sz := i.size) (cap := n) (es := es) (vs := vs) (by omega) (by simp only [maxLen]; have := Nat.le_mul_of_pos_right n hpos; omega) (by rw [hl, hl']) hrow
    rw [hl'] at this
    exact this
  | _ => exact hk.elim

theorem indexAddr_ok (hT : TabOK P T) {F : Fr} {h : Hp} {nid : Nat} {t : TypeId} {x i : Operand} {K : Kop} (hk : opK T F h nid (.indexAddr t x i) K) : OpGood P F h (.indexAddr t x i) K := by
  replace hk := tyK_sound hT (show tyK T t _ from hk)
  obtain ⟨sx, hk, hx⟩ := evK_sound hk
  obtain ⟨si, hk, hi⟩ := evK_sound hk
  generalize hti : (teOf P t).ti = ti at hk
  have hox : ∀ (w : World) (E : Nat → Prop) (σ : Sg) (ρ : Operand → Value), (∀ z ∈ (Op.indexAddr t x i).operands.toList, OpnRep w E σ F ρ z) → Rep w E σ sx (ρ x) := fun w E σ ρ ho => hx w E σ ρ (ho x (by simp [Op.operands]))
  have hoi : ∀ (w : World) (E : Nat → Prop) (σ : Sg) (ρ : Operand → Value), (∀ z ∈ (Op.indexAddr t x i).operands.toList, OpnRep w E σ F ρ z) → Rep w E σ si (ρ i) := fun w E σ ρ ho => hi w E σ ρ (ho i (by simp [Op.operands]))
  cases ti with
  | slice e =>
    have hu := und_slice (ti_of hti (by simp)).1
    cases sx with
    | rs z es =>
      cases si with
      | int q n =>
        obtain ⟨sz, ag, hk, _, hn⟩ := isAggK_sound hT (show isAggK T e _ from hk)
        cases hb : Nat.beq sz z with
        | false => rw [hb] at hk; exact hk.elim
        | true =>
          rw [hb] at hk
          have hzz := Nat.eq_of_beq_eq_true hb
          subst hzz
          obtain ⟨⟨h0, h1⟩, hk⟩ := hk
          exact good_pure hk fun w E σ ρ d ty pos after guard ho => by
            have hr := hox w E σ ρ ho
            have hr2 := hoi w E σ ρ ho
            generalize hρ : ρ x = vx at hr
            generalize hρi : ρ i = vi at hr2
            cases hr2
            cases hr with
            | rs0 hc => simp at h1; omega
            | rs hc hm hE hlt hlen hcell hone hrep =>
              rename_i ad c val
              refine ⟨.pointer (some (ad.add (n.toNat * sz))), run_val ?_, by rw [show n.toNat * sz = n.toNat * sz + 0 from rfl]; exact .rp hE hlt hlen hcell hone hrep⟩
              rw [hρ, hρi]
              simp [Instr.indexAt, asIntOf, run_underlying' hu, hn w, h0, h1]
      | _ => exact hk.elim
    | sl b =>
      cases si with
      | int q n =>
        obtain ⟨blk, hb0, hk⟩ := nthK_sound (show nthK h b _ from hk)
        cases blk with
        | row T0 z es =>
          obtain ⟨sz, ag, hk, _, hn⟩ := isAggK_sound hT (show isAggK T e _ from hk)
          cases hb : Nat.beq sz z with
          | false => rw [hb] at hk; exact hk.elim
          | true =>
            rw [hb] at hk
            obtain ⟨⟨h0, h1⟩, hkk⟩ := hk
            have hzz := Nat.eq_of_beq_eq_true hb
            subst hzz
            refine ⟨_, _, _, hkk, fun w X σ h2 ρ d ty pos after guard hI ho hrd => ?_, by simp⟩
            have hb' : h2[b]? = some (.row T0 sz es) := (hrd b (by simp)).trans hb0
            have hr := hox w _ σ ρ ho
            have hr2 := hoi w _ σ ρ ho
            generalize hρ : ρ x = vx at hr
            generalize hρi : ρ i = vi at hr2
            cases hr2
            rcases row_of hI hb' with ⟨g, cap, vs, hσ, _⟩ | ⟨_, hes⟩
            · cases hr with
              | sl h' =>
                rw [hσ] at h'
                simp at h'
                obtain ⟨rfl, rfl, rfl, rfl⟩ := h'
                refine .pure (v := .pointer (some ⟨g, n.toNat * sz, none⟩)) (run_val ?_) hI (by rw [show n.toNat * sz = n.toNat * sz + 0 from rfl]; exact .ep hσ)
                rw [hρ, hρi]
                simp [Instr.indexAt, asIntOf, run_underlying' hu, hn w, h0, h1, addr_add]
              | slN h' => rw [hσ] at h'; simp at h'
              | slD h' => rw [hσ] at h'; simp at h'
            · subst hes; simp at h1; omega
        | _ => exact hk.elim
      | _ => exact hk.elim
    | _ => exact hk.elim
  | array len e =>
    have hu := und_array (ti_of hti (by simp)).1
    cases sx with
    | ptr b off =>
      cases si with
      | int q n =>
        obtain ⟨sz, ag, ⟨⟨h0, h1⟩, m, hnm, hk⟩, _, hn⟩ := isAggK_sound hT (show isAggK T e _ from hk)
        have hm : n.toNat = m := by omega
        rw [← hm] at hk
        exact good_pure hk fun w E σ ρ d ty pos after guard ho => by
          have hr := hox w E σ ρ ho
          have hr2 := hoi w E σ ρ ho
          generalize hρ : ρ x = vx at hr
          generalize hρi : ρ i = vi at hr2
          cases hr2
          cases hr with
          | ptr h' => rename_i g; exact ⟨_, run_val (v := .pointer (some ⟨g, off + n.toNat * sz, none⟩)) (by rw [hρ, hρi]; simp [Instr.indexAt, asIntOf, run_underlying' hu, Instr.sureAddr, hn w, h0, h1, addr_add]), .ptr h'⟩
          | ptrD h' => rename_i g; exact ⟨_, run_val (v := .pointer (some ⟨g, off + n.toNat * sz, none⟩)) (by rw [hρ, hρi]; simp [Instr.indexAt, asIntOf, run_underlying' hu, Instr.sureAddr, hn w, h0, h1, addr_add]), .ptrD h'⟩
      | _ => exact hk.elim
    | _ => cases si <;> exact hk.elim
  | _ => cases sx <;> cases si <;> exact hk.elim

theorem makeFunc_ok {F : Fr} {h : Hp} {nid : Nat} {fn : Fn} {a b : Array Operand} {K : Kop} (hk : opK T F h nid (.makeFunc fn a b) K) : OpGood P F h (.makeFunc fn a b) K := by
  cases fn with
  | func f =>
    replace hk : (match Fn.func f, a.toList with | .func f, [] => evsK F b.toList fun l => K (.fn f l) [] [] | _, _ => False) := hk
    cases ha : a.toList with
    | nil =>
      rw [ha] at hk
      obtain ⟨ss, hkk, hs⟩ := evsK_sound hk
      have ha' : a = #[] := by simpa using ha
      exact good_pure hkk fun w E σ ρ d ty pos after guard ho => by
        have hr := hs w E σ ρ fun y hy => ho y (by simp [Op.operands]; exact .inr (by simpa using hy))
        refine ⟨.func (.func f) #[] (b.map ρ), run_val (m := Instr.makeFunc (.func f) (a.map ρ) (b.map ρ)) (by simp [Instr.makeFunc, ha']), .fn (by have := hr.1; simpa using this) fun j s v hs' hv => hr.2 j s v hs' ?_⟩
        rw [Array.getElem?_map] at hv
        rw [List.getElem?_map, Array.getElem?_toList]; exact hv
    | cons _ _ => rw [ha] at hk; exact hk.elim
  | _ => exact hk.elim
end
end Go.Sx

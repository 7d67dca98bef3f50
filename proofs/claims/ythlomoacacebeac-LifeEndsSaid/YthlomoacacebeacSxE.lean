/- The symbolic executor is sound: operators and parts of values. No statement of the seat is proved here. -/
import Derived.Lib.SliceRun
import Derived.Test.YthlomoacacebeacSxD
namespace Go.Sx
section
variable {P : Program} {T : Tab}

/-! ### parts -/
theorem partK_sound (hT : TabOK P T) {cs : List SV} {off : Nat} {t : TypeId} {k : SV → Prop} (h : partK T cs off t k) :
    ∃ s n b, k s ∧ (∀ w, (isAgg t).run P w = .ok b w) ∧ (∀ w, (sizeOf t).run P w = .ok n w) ∧
      (b = true → s = .agg ((cs.drop off).take n) ∧ off + n ≤ cs.length) ∧ (b = false → cs[off]? = some s) := by
  unfold partK at h
  obtain ⟨n, b, h, hb, hn⟩ := isAggK_sound hT h
  cases b with
  | true =>
    obtain ⟨h1, h⟩ := dropK_sound h
    obtain ⟨h2, h⟩ := takeK_sound h
    exact ⟨_, n, true, h, hb, hn, fun _ => ⟨rfl, by simp at h2; omega⟩, fun h => by simp at h⟩
  | false =>
    obtain ⟨s, h1, h⟩ := nthK_sound h
    exact ⟨s, n, false, h, hb, hn, fun h => by simp at h, fun _ => h1⟩

/-- A variable is read. -/
theorem load_sound {w : World} {E : Nat → Prop} {σ : Sg} {cs : List SV} {off : Nat} {t : TypeId} {s : SV} {n : Nat} {b : Bool} {a : Addr} (val : Nat → Value)
    (hb : (isAgg t).run P w = .ok b w) (hn : (sizeOf t).run P w = .ok n w) (h1 : b = true → s = .agg ((cs.drop off).take n) ∧ off + n ≤ cs.length) (h2 : b = false → cs[off]? = some s)
    (hc : ∀ j s, cs[off + j]? = some s → w.cell? (a.add j) = some (val j) ∧ Rep w E σ s (val j) ∧ (val j).oneCell' = true) :
    ∃ v, (loadVar t a).run P w = .ok v w ∧ Rep w E σ s v := by
  unfold loadVar
  cases b with
  | true =>
    obtain ⟨rfl, hlen⟩ := h1 rfl
    have hget : ∀ j, j < n → ∃ s, cs[off + j]? = some s := fun j hj => ⟨cs[off + j]'(by omega), List.getElem?_eq_getElem (by omega)⟩
    have hl := run_loadCells_list (P := P) (w := w) a ((List.range n).map val) (fun j v hv => by
      simp only [List.getElem?_map] at hv
      cases hr : (List.range n)[j]? with
      | none => rw [hr] at hv; simp at hv
      | some u =>
        rw [hr] at hv
        obtain ⟨hj, hu⟩ := List.getElem?_eq_some_iff.1 hr
        simp at hj hu
        subst hu
        simp at hv; subst hv
        obtain ⟨s, hs⟩ := hget j hj
        exact (hc j s hs).1)
    simp only [List.length_map, List.length_range] at hl
    refine ⟨.agg ((List.range n).map val).toArray, by simp [hb, hn, hl], .agg ?_ ?_ ?_⟩
    · simp; omega
    · intro i v hv
      simp only [List.getElem?_toArray, List.getElem?_map] at hv
      cases hr : (List.range n)[i]? with
      | none => rw [hr] at hv; simp at hv
      | some u =>
        rw [hr] at hv
        obtain ⟨hj, hu⟩ := List.getElem?_eq_some_iff.1 hr
        simp at hj hu
        subst hu
        simp at hv; subst hv
        obtain ⟨s, hs⟩ := hget i hj
        exact (hc i s hs).2.2
    · intro i s v hs hv
      simp only [List.getElem?_toArray, List.getElem?_map] at hv
      cases hr : (List.range n)[i]? with
      | none => rw [hr] at hv; simp at hv
      | some u =>
        rw [hr] at hv
        obtain ⟨hj, hu⟩ := List.getElem?_eq_some_iff.1 hr
        simp at hj hu
        subst hu
        simp at hv; subst hv
        rw [List.getElem?_take, if_pos hj, List.getElem?_drop] at hs
        exact (hc i s hs).2.1
  | false =>
    have hs := h2 rfl
    have := hc 0 s (by simpa using hs)
    have ha : a.add 0 = a := by simp [Addr.add]
    rw [ha] at this
    exact ⟨val 0, by simp [hb, this.1, load, Sem.run], this.2.1⟩

/-- A part of a value is read. -/
theorem part_sound {w : World} {E : Nat → Prop} {σ : Sg} {cs : List SV} {vs : Array Value} {off : Nat} {t : TypeId} {s : SV} {n : Nat} {b : Bool}
    (hb : (isAgg t).run P w = .ok b w) (hn : (sizeOf t).run P w = .ok n w) (h1 : b = true → s = .agg ((cs.drop off).take n) ∧ off + n ≤ cs.length) (h2 : b = false → cs[off]? = some s)
    (hl : cs.length = vs.size) (hone : ∀ (i : Nat) (v : Value), vs[i]? = some v → v.oneCell' = true) (hc : ∀ (i : Nat) (s : SV) (v : Value), cs[i]? = some s → vs[i]? = some v → Rep w E σ s v) :
    ∃ v, (part t vs off).run P w = .ok v w ∧ Rep w E σ s v := by
  unfold part
  cases b with
  | true =>
    obtain ⟨rfl, hlen⟩ := h1 rfl
    refine ⟨.agg (vs.extract off (off + n)), by simp [hb, hn], .agg ?_ ?_ ?_⟩
    · simp; omega
    · intro i v hv
      rw [Array.getElem?_extract] at hv
      split at hv
      · exact hone _ v hv
      · simp at hv
    · intro i s v hs hv
      rw [Array.getElem?_extract] at hv
      split at hv
      · rw [List.getElem?_take] at hs
        split at hs
        · rw [List.getElem?_drop] at hs
          exact hc _ s v hs hv
        · simp at hs
      · simp at hv
  | false =>
    have hs := h2 rfl
    have hlt : off < vs.size := by rw [← hl]; exact (List.getElem?_eq_some_iff.1 hs).1
    have hv : vs[off]? = some (vs[off]'hlt) := Array.getElem?_eq_getElem hlt
    exact ⟨vs[off]'hlt, by simp [hb, hv], hc off s _ hs hv⟩

/-! ### operators -/
theorem eqGuard_plain {op : BinOp} {t : TypeId} {x y : Operand} {a b : Value} {w : World} (h : (∀ cs, a ≠ .agg cs) ∧ a ≠ .nilIface) : (eqGuard op t x y a b).run P w = .ok () w := by
  cases op <;> (try rfl) <;> (cases a <;> first | rfl | exact absurd rfl h.2 | exact absurd rfl (h.1 _))

theorem eqK_sound (hT : TabOK P T) : ∀ (n : Nat) {t : TypeId} {x y : SV} {k : Bool → Prop}, eqK T n t x y k →
    ∃ r, k r ∧ ∀ (w : World) (E : Nat → Prop) (σ : Sg) (vx vy : Value) (d : Nat), n ≤ d → Rep w E σ x vx → Rep w E σ y vy → (Op.equalIn d t vx vy).run P w = .ok r w := by
  intro n
  induction n with
  | zero => intro t x y k h; exact h.elim
  | succ n ih =>
    intro t x y k h
    replace h := tyK_sound hT (show tyK T t _ from h)
    generalize hti : (teOf P t).ti = ti at h
    cases ti with
    | int q0 =>
      have hu := und_int (ti_of hti (by simp)).1
      cases x <;> cases y <;> simp only [] at h <;> try exact h.elim
      rename_i q a q' b
      split at h
      · rename_i hq
        subst hq
        refine ⟨_, h, fun w E σ vx vy d hd hx hy => ?_⟩
        obtain ⟨d, rfl⟩ : ∃ d', d = d' + 1 := ⟨d - 1, by omega⟩
        cases hx; cases hy
        rw [run_equalIn_int w d t q q0 a b hu]
        rfl
      · exact h.elim
    | bool =>
      have hu := und_bool (ti_of hti (by simp)).1
      replace h : asB x fun a => asB y fun b => k (a == b) := by cases x <;> cases y <;> simpa using h
      obtain ⟨a, h, ha⟩ := asB_sound h
      obtain ⟨b, h, hb⟩ := asB_sound h
      refine ⟨_, h, fun w E σ vx vy d hd hx hy => ?_⟩
      obtain ⟨d, rfl⟩ : ∃ d', d = d' + 1 := ⟨d - 1, by omega⟩
      rw [ha _ _ _ _ hx, hb _ _ _ _ hy, run_equalIn_bool' w d t a b hu]
    | str =>
      have hu := und_str (ti_of hti (by simp)).1
      cases x <;> cases y <;> simp only [] at h <;> try exact h.elim
      refine ⟨_, h, fun w E σ vx vy d hd hx hy => ?_⟩
      obtain ⟨d, rfl⟩ : ∃ d', d = d' + 1 := ⟨d - 1, by omega⟩
      cases hx; cases hy
      rw [run_equalIn_string w d t _ _ hu, ByteArray.toList_mk, ByteArray.toList_mk]
      congr 1
      rw [Bool.eq_iff_iff]; simp
    | struct fs =>
      obtain ⟨hti', i, _, _, _, _, hfl⟩ := ti_of hti (by simp)
      obtain ⟨fields, hu, hfs, _⟩ := und_struct hti'
      cases x <;> cases y <;> simp only [] at h <;> try exact h.elim
      rename_i xs ys
      rw [hfl] at h
      cases hflat : flatOf P t with
      | false => rw [hflat] at h; exact h.elim
      | true =>
        rw [hflat] at h
        unfold flatOf at hflat
        rw [hu] at hflat
        simp only [Bool.and_eq_true, Bool.not_eq_true', List.all_eq_true] at hflat
        obtain ⟨⟨hst, hnames⟩, _⟩ := hflat
        have hf : P.fieldsOf t = fields := by simp [Program.fieldsOf, hu]
        -- the fields, one by one
        have key : ∀ (l : List Field) (k : Bool → Prop), (∀ f ∈ l, (f.name != "_") = true) →
            List.rec (motive := fun _ => (Bool → Prop) → Prop) (fun k => k true)
              (fun (f : Nat × TypeId × Nat) _ ih' k => partK T xs f.1 f.2.1 fun a => partK T ys f.1 f.2.1 fun b => eqK T n f.2.1 a b fun r => ih' fun r' => k (r && r'))
              (l.map fun f => (f.offset, f.type, P.cellsOf f.type)) k →
            ∃ r, k r ∧ ∀ (w : World) (E : Nat → Prop) (σ : Sg) (vx vy : Array Value) (d : Nat), n ≤ d → Rep w E σ (.agg xs) (.agg vx) → Rep w E σ (.agg ys) (.agg vy) → (Op.eqFields d vx vy l).run P w = .ok r w := by
          intro l
          induction l with
          | nil => intro k _ h; exact ⟨true, h, fun w E σ vx vy d _ _ _ => rfl⟩
          | cons f l ihl =>
            intro k hn h
            obtain ⟨sa, na, ba, h, a1, a2, a3, a4⟩ := partK_sound hT (show partK T xs f.offset f.type _ from h)
            obtain ⟨sb, nb, bb, h, b1, b2, b3, b4⟩ := partK_sound hT h
            obtain ⟨r, h, hr⟩ := ih h
            obtain ⟨r', h, hr'⟩ := ihl _ (fun g hg => hn g (by simp [hg])) h
            refine ⟨r && r', h, fun w E σ vx vy d hd hx hy => ?_⟩
            have hnm : (f.name ≠ "_") := by have := hn f (by simp); simpa using this
            cases hx with
            | agg hl1 ho1 hc1 =>
              cases hy with
              | agg hl2 ho2 hc2 =>
                obtain ⟨va, ra, rpa⟩ := part_sound (P := P) (w := w) (a1 w) (a2 w) a3 a4 hl1 ho1 hc1
                obtain ⟨vb, rb, rpb⟩ := part_sound (P := P) (w := w) (b1 w) (b2 w) b3 b4 hl2 ho2 hc2
                have e1 := hr w E σ va vb d hd rpa rpb
                have e2 := hr' w E σ vx vy d hd (.agg hl1 ho1 hc1) (.agg hl2 ho2 hc2)
                simp only [Op.eqFields, if_pos hnm, Sem.run_bind, ra, rb, e1, Result.andThen_ok]
                cases r
                · simp
                · simpa using e2
        obtain ⟨r, h, hr⟩ := key fields.toList k hnames (by rw [← hfs]; exact h)
        refine ⟨r, h, fun w E σ vx vy d hd hx hy => ?_⟩
        obtain ⟨d, rfl⟩ : ∃ d', d = d' + 1 := ⟨d - 1, by omega⟩
        cases hx with
        | agg hl1 ho1 hc1 =>
          cases hy with
          | agg hl2 ho2 hc2 =>
            rw [run_equalIn_struct w d t _ _ (by rw [hf]; exact hu) hst, hf]
            exact hr w E σ _ _ d (by omega) (.agg hl1 ho1 hc1) (.agg hl2 ho2 hc2)
    | array _ _ => exact h.elim
    | slice _ => exact h.elim
    | ptr _ => exact h.elim
    | other => exact h.elim
    | none => exact h.elim

theorem intK_sound {op : BinOp} {q : IntKind} {a b : Int} {k : SV → Prop} (h : intK op q a b k) :
    ∃ s, k s ∧ op ≠ .shl ∧ op ≠ .shr ∧ ∀ (w : World) (E : Nat → Prop) (σ : Sg) (t : TypeId), ∃ v, (binOp op t (.int q a) (.int q b)).run P w = .ok v w ∧ Rep w E σ s v := by
  cases op <;> simp only [intK] at h
  case quo => exact ⟨_, h.2, by simp, by simp, fun w E σ t => ⟨_, by simp [binOp, Op.intDiv, h.1], .int⟩⟩
  case rem => exact ⟨_, h.2, by simp, by simp, fun w E σ t => ⟨_, by simp [binOp, Op.intDiv, h.1], .int⟩⟩
  case eql => exact ⟨_, h, by simp, by simp, fun w E σ t => ⟨.bool (decide (a = b)), by simp [binOp, Op.intCmp]; rfl, .bool⟩⟩
  case neq => exact ⟨_, h, by simp, by simp, fun w E σ t => ⟨.bool (decide (¬ a = b)), by simp [binOp, Op.intCmp, bne]; rfl, .bool⟩⟩
  case add => exact ⟨_, h, by simp, by simp, fun w E σ t => ⟨_, by simp [binOp, Op.intArith], .int⟩⟩
  case sub => exact ⟨_, h, by simp, by simp, fun w E σ t => ⟨_, by simp [binOp, Op.intArith], .int⟩⟩
  case mul => exact ⟨_, h, by simp, by simp, fun w E σ t => ⟨_, by simp [binOp, Op.intArith], .int⟩⟩
  case and => exact ⟨_, h, by simp, by simp, fun w E σ t => ⟨_, by simp [binOp, Op.intBits], .int⟩⟩
  case or => exact ⟨_, h, by simp, by simp, fun w E σ t => ⟨_, by simp [binOp, Op.intBits], .int⟩⟩
  case xor => exact ⟨_, h, by simp, by simp, fun w E σ t => ⟨_, by simp [binOp, Op.intBits], .int⟩⟩
  case andNot => exact ⟨_, h, by simp, by simp, fun w E σ t => ⟨_, by simp [binOp, Op.intBits], .int⟩⟩
  case lss => exact ⟨_, h, by simp, by simp, fun w E σ t => ⟨_, by simp [binOp, Op.intCmp], .bool⟩⟩
  case leq => exact ⟨_, h, by simp, by simp, fun w E σ t => ⟨_, by simp [binOp, Op.intCmp], .bool⟩⟩
  case gtr => exact ⟨_, h, by simp, by simp, fun w E σ t => ⟨_, by simp [binOp, Op.intCmp], .bool⟩⟩
  case geq => exact ⟨_, h, by simp, by simp, fun w E σ t => ⟨_, by simp [binOp, Op.intCmp], .bool⟩⟩

theorem strK_sound {op : BinOp} {a b : List UInt8} {k : SV → Prop} (h : strK op a b k) :
    ∃ s, k s ∧ ∀ (w : World) (E : Nat → Prop) (σ : Sg) (t : TypeId), ∃ v, (binOp op t (.string ⟨a.toArray⟩) (.string ⟨b.toArray⟩)).run P w = .ok v w ∧ Rep w E σ s v := by
  have hsz : ∀ l : List UInt8, (⟨l.toArray⟩ : ByteArray).size = l.length := fun l => by simp [ByteArray.size]
  cases op <;> simp only [strK] at h
  case add =>
    refine ⟨_, h.2, fun w E σ t => ⟨.string (⟨a.toArray⟩ ++ ⟨b.toArray⟩), ?_, ?_⟩⟩
    · simp only [binOp]
      exact run_string_add_sum w _ _ (by rw [hsz, hsz]; omega)
    · have : (⟨a.toArray⟩ ++ ⟨b.toArray⟩ : ByteArray) = ⟨(a ++ b).toArray⟩ := by
        apply ByteArray.ext
        simp
      rw [this]; exact .str
  case eql => exact ⟨_, h, fun w E σ t => ⟨_, by simp [binOp, Op.stringOp]; rfl, by first | exact .bool | (rw [show (a == b) = decide (a = b) by rw [Bool.eq_iff_iff]; simp]; exact .bool)⟩⟩
  case neq => exact ⟨_, h, fun w E σ t => ⟨_, by simp [binOp, Op.stringOp]; rfl, by first | exact .bool | (rw [show (a == b) = decide (a = b) by rw [Bool.eq_iff_iff]; simp]; exact .bool)⟩⟩
  case lss => exact ⟨_, h, fun w E σ t => ⟨_, by simp [binOp, Op.stringOp], .bool⟩⟩
  case leq => exact ⟨_, h, fun w E σ t => ⟨_, by simp [binOp, Op.stringOp]; rfl, by first | exact .bool | (rw [show (a == b) = decide (a = b) by rw [Bool.eq_iff_iff]; simp]; exact .bool)⟩⟩
  case gtr => exact ⟨_, h, fun w E σ t => ⟨.bool (!(Op.bytesLess a b || a == b)), by simp [binOp, Op.stringOp], by rw [show (a == b) = decide (a = b) by rw [Bool.eq_iff_iff]; simp]; exact .bool⟩⟩
  case geq => exact ⟨_, h, fun w E σ t => ⟨_, by simp [binOp, Op.stringOp], .bool⟩⟩

theorem boolK_sound {op : BinOp} {a b : SV} {k : SV → Prop} {t : TypeId} (hu : P.underlying t = some .bool) (h : boolK op a b k) :
    ∃ s, k s ∧ ∀ (w : World) (E : Nat → Prop) (σ : Sg) (va vb : Value), Rep w E σ a va → Rep w E σ b vb → ∃ v, (binOp op t va vb).run P w = .ok v w ∧ Rep w E σ s v := by
  cases op <;> simp only [boolK] at h
  case eql =>
    obtain ⟨x, h, hx⟩ := asB_sound h
    obtain ⟨y, h, hy⟩ := asB_sound h
    refine ⟨_, h, fun w E σ va vb ra rb => ⟨.bool (x == y), ?_, .bool⟩⟩
    rw [hx _ _ _ _ ra, hy _ _ _ _ rb]
    simp only [binOp]
    simp [Op.equal, Op.maxDepth, run_equalIn_bool' w 9999 t x y hu]
  case neq =>
    obtain ⟨x, h, hx⟩ := asB_sound h
    obtain ⟨y, h, hy⟩ := asB_sound h
    refine ⟨_, h, fun w E σ va vb ra rb => ⟨.bool (!(x == y)), ?_, .bool⟩⟩
    rw [hx _ _ _ _ ra, hy _ _ _ _ rb]
    simp only [binOp]
    simp [Op.equal, Op.maxDepth, run_equalIn_bool' w 9999 t x y hu]

theorem binK_sound (hT : TabOK P T) {op : BinOp} {t : TypeId} {x y : SV} {k : SV → Prop} (h : binK T op t x y k) :
    ∃ s, k s ∧ ∀ (w : World) (E : Nat → Prop) (σ : Sg) (vx vy : Value) (ox oy : Operand), Rep w E σ x vx → Rep w E σ y vy →
      ∃ v, ((do eqGuard op t ox oy vx vy; binOp op t vx vy) : Sem Value).run P w = .ok v w ∧ Rep w E σ s v := by
  -- a value that is neither a struct nor a nil interface needs no guard
  have plain : ∀ {s : SV}, k s → (∀ (w : World) (E : Nat → Prop) (σ : Sg) (vx : Value), Rep w E σ x vx → (∀ cs, vx ≠ .agg cs) ∧ vx ≠ .nilIface) →
      (∀ (w : World) (E : Nat → Prop) (σ : Sg) (vx vy : Value), Rep w E σ x vx → Rep w E σ y vy → ∃ v, (binOp op t vx vy).run P w = .ok v w ∧ Rep w E σ s v) →
      ∃ s, k s ∧ ∀ (w : World) (E : Nat → Prop) (σ : Sg) (vx vy : Value) (ox oy : Operand), Rep w E σ x vx → Rep w E σ y vy →
        ∃ v, ((do eqGuard op t ox oy vx vy; binOp op t vx vy) : Sem Value).run P w = .ok v w ∧ Rep w E σ s v := by
    intro s hk hn hb
    refine ⟨s, hk, fun w E σ vx vy ox oy rx ry => ?_⟩
    obtain ⟨v, hv, hr⟩ := hb w E σ vx vy rx ry
    exact ⟨v, by simp only [Sem.run_bind, eqGuard_plain (hn w E σ vx rx), Result.andThen_ok]; exact hv, hr⟩
  have tyb : ∀ {R : Prop}, (tyK T t fun te => match te.ti with | .bool => R | _ => False) → P.underlying t = some .bool ∧ R := by
    intro R h
    replace h := tyK_sound hT h
    generalize hti : (teOf P t).ti = ti at h
    cases ti <;> first | exact h.elim | exact ⟨und_bool (ti_of hti (by simp)).1, h⟩
  have ptrs : ∀ {x' : SV}, (tyK T t fun te => match (generalizing := false) te.ti, op with | .ptr _, .eql => k .ff | .ptr _, .neq => k .tt | _, _ => False) → (∀ (w : World) (E : Nat → Prop) (σ : Sg) (vx : Value), Rep w E σ x' vx → ∃ a : Addr, vx = .pointer (some a)) →
      ∃ s, k s ∧ ∀ (w : World) (E : Nat → Prop) (σ : Sg) (vx vy : Value) (ox oy : Operand), Rep w E σ x' vx → Rep w E σ .nilp vy →
        ∃ v, ((do eqGuard op t ox oy vx vy; binOp op t vx vy) : Sem Value).run P w = .ok v w ∧ Rep w E σ s v := by
    intro x' h hx
    replace h := tyK_sound hT h
    generalize hti : (teOf P t).ti = ti at h
    cases ti with
    | ptr e =>
      have hu := und_ptr (ti_of hti (by simp)).1
      have hp : P.underlying t = some (.pointer (P.pointee t)) := by simp [Program.pointee, hu]
      have key : ∀ s, k s → (∀ (w : World) (E : Nat → Prop) (σ : Sg) (a : Addr), ∃ v, (binOp op t (.pointer (some a)) (.pointer none)).run P w = .ok v w ∧ Rep w E σ s v) → ∃ s, k s ∧ ∀ (w : World) (E : Nat → Prop) (σ : Sg) (vx vy : Value) (ox oy : Operand), Rep w E σ x' vx → Rep w E σ .nilp vy →
          ∃ v, ((do eqGuard op t ox oy vx vy; binOp op t vx vy) : Sem Value).run P w = .ok v w ∧ Rep w E σ s v := by
        intro s hk hb
        refine ⟨s, hk, fun w E σ vx vy ox oy rx ry => ?_⟩
        obtain ⟨a, rfl⟩ := hx w E σ vx rx
        cases ry
        obtain ⟨v, hv, hr⟩ := hb w E σ a
        exact ⟨v, by simp only [Sem.run_bind, eqGuard_plain (show (∀ cs, Value.pointer (some a) ≠ .agg cs) ∧ Value.pointer (some a) ≠ .nilIface by simp), Result.andThen_ok]; exact hv, hr⟩
      cases op with
      | eql => exact key .ff h fun w E σ a => ⟨.bool false, by rw [run_eql_pointer_nil w t (some a) hp]; rfl, .ff⟩
      | neq => exact key .tt h fun w E σ a => ⟨.bool true, by rw [run_neq_pointer_nil w t (some a) hp]; rfl, .tt⟩
      | _ => exact h.elim
    | _ => exact h.elim
  cases x with
  | int q a =>
    cases y with
    | int q' b =>
      have np : ∀ (w : World) (E : Nat → Prop) (σ : Sg) (vx : Value), Rep w E σ (.int q a) vx → (∀ cs, vx ≠ .agg cs) ∧ vx ≠ .nilIface := fun w E σ vx r => by cases r; simp
      by_cases h1 : op = .shl
      · subst h1
        exact plain h.2 np fun w E σ vx vy rx ry => by
          cases rx; cases ry
          exact ⟨_, by simp [binOp, Op.shift, Int.not_lt.2 h.1], .int⟩
      · by_cases h2 : op = .shr
        · subst h2
          exact plain h.2 np fun w E σ vx vy rx ry => by
            cases rx; cases ry
            exact ⟨_, by simp [binOp, Op.shift, Int.not_lt.2 h.1], .int⟩
        · replace h : if q = q' then intK op q a b k else False := by
            cases op <;> first | exact absurd rfl h1 | exact absurd rfl h2 | exact h
          split at h
          · rename_i hq
            subst hq
            obtain ⟨s, hk, _, _, hb⟩ := intK_sound (P := P) h
            exact plain hk np fun w E σ vx vy rx ry => by
              cases rx; cases ry
              exact hb w E σ t
          · exact h.elim
    | _ => exact h.elim
  | str a =>
    cases y with
    | str b =>
      obtain ⟨s, hk, hb⟩ := strK_sound (P := P) h
      exact plain hk (fun w E σ vx r => by cases r; simp) fun w E σ vx vy rx ry => by
        cases rx; cases ry
        exact hb w E σ t
    | _ => exact h.elim
  | tt =>
    obtain ⟨hu, h⟩ := tyb h
    obtain ⟨s, hk, hb⟩ := boolK_sound hu h
    exact plain hk (fun w E σ vx r => by cases r; simp) fun w E σ vx vy rx ry => hb w E σ vx vy rx ry
  | ff =>
    obtain ⟨hu, h⟩ := tyb h
    obtain ⟨s, hk, hb⟩ := boolK_sound hu h
    exact plain hk (fun w E σ vx r => by cases r; simp) fun w E σ vx vy rx ry => hb w E σ vx vy rx ry
  | bool b =>
    obtain ⟨hu, h⟩ := tyb h
    obtain ⟨s, hk, hb⟩ := boolK_sound hu h
    exact plain hk (fun w E σ vx r => by cases r; simp) fun w E σ vx vy rx ry => hb w E σ vx vy rx ry
  | agg xs =>
    cases y with
    | agg ys =>
      have guardOK : ∀ {r : Bool → Prop}, eqK T 8 t (.agg xs) (.agg ys) r → P.eqGuardType P.depth t = false := by
        intro r hr
        replace hr := tyK_sound hT (show tyK T t _ from hr)
        generalize hti : (teOf P t).ti = ti at hr
        cases ti with
        | struct fs =>
          obtain ⟨hti', i, _, _, _, _, hfl⟩ := ti_of hti (by simp)
          obtain ⟨fields, hu, _, _⟩ := und_struct hti'
          rw [hfl] at hr
          cases hflat : flatOf P t with
          | false => rw [hflat] at hr; exact hr.elim
          | true =>
            unfold flatOf at hflat
            rw [hu] at hflat
            simp only [Bool.and_eq_true, Bool.not_eq_true'] at hflat
            exact hflat.2
        | bool => exact hr.elim
        | _ => exact hr.elim
      cases op <;> simp only [binK] at h
      case eql =>
        obtain ⟨r, hk, he⟩ := eqK_sound hT 8 h
        have hg := guardOK h
        refine ⟨_, hk, fun w E σ vx vy ox oy rx ry => ?_⟩
        have e := he w E σ vx vy 10000 (by omega) rx ry
        cases rx; cases ry
        exact ⟨_, by simp only [Sem.run_bind, run_eqGuard_agg w .eql t ox oy _ _ hg, Result.andThen_ok, run_eql_struct, e], .bool⟩
      case neq =>
        obtain ⟨r, hk, he⟩ := eqK_sound hT 8 h
        have hg := guardOK h
        refine ⟨_, hk, fun w E σ vx vy ox oy rx ry => ?_⟩
        have e := he w E σ vx vy 10000 (by omega) rx ry
        cases rx; cases ry
        exact ⟨_, by simp only [Sem.run_bind, run_eqGuard_agg w .neq t ox oy _ _ hg, Result.andThen_ok, run_neq_struct, e], .bool⟩
    | _ => exact h.elim
  | nilp =>
    cases y with
    | nilp =>
      replace h := tyK_sound hT (show tyK T t _ from h)
      generalize hti : (teOf P t).ti = ti at h
      cases ti with
      | ptr e =>
        have hu := und_ptr (ti_of hti (by simp)).1
        have hp : P.underlying t = some (.pointer (P.pointee t)) := by simp [Program.pointee, hu]
        have np : ∀ (w : World) (E : Nat → Prop) (σ : Sg) (vx : Value), Rep w E σ .nilp vx → (∀ cs, vx ≠ .agg cs) ∧ vx ≠ .nilIface := fun w E σ vx r => by cases r; simp
        cases op with
        | eql =>
          refine plain h np fun w E σ vx vy rx ry => ?_
          cases rx; cases ry
          exact ⟨.bool true, by rw [run_eql_pointer_nil w t none hp]; rfl, .tt⟩
        | neq =>
          refine plain h np fun w E σ vx vy rx ry => ?_
          cases rx; cases ry
          exact ⟨.bool false, by rw [run_neq_pointer_nil w t none hp]; rfl, .ff⟩
        | _ => exact h.elim
      | _ => exact h.elim
    | _ => exact h.elim
  | ptr b o =>
    cases y with
    | nilp => exact ptrs h fun w E σ vx r => by cases r <;> exact ⟨_, rfl⟩
    | _ => exact h.elim
  | ep b i f =>
    cases y with
    | nilp => exact ptrs h fun w E σ vx r => by cases r <;> exact ⟨_, rfl⟩
    | _ => exact h.elim
  | rp z es i f =>
    cases y with
    | nilp => exact ptrs h fun w E σ vx r => by cases r; exact ⟨_, rfl⟩
    | _ => exact h.elim
  | rs z es =>
    cases y with
    | nils =>
      replace h := tyK_sound hT (show tyK T t _ from h)
      generalize hti : (teOf P t).ti = ti at h
      cases ti with
      | slice e =>
        have hu := und_slice (ti_of hti (by simp)).1
        cases op with
        | eql =>
          refine plain h (fun w E σ vx r => by cases r <;> simp) fun w E σ vx vy rx ry => ?_
          cases ry
          cases rx with
          | @rs0 _ _ a c _ => exact ⟨_, Lib.run_eql_slice_nil w t e a 0 c 0 0 hu, .qb fun _ => rfl⟩
          | @rs _ _ _ ad c _ _ _ _ _ _ _ _ _ => exact ⟨_, Lib.run_eql_slice_nil w t e (some ad) _ c 0 0 hu, .qb fun h => by simp at h⟩
        | _ => exact h.elim
      | _ => exact h.elim
    | _ => exact h.elim
  | _ => cases y <;> exact h.elim

theorem unK_sound {op : UnOp} {x : SV} {k : SV → Prop} (h : unK op x k) :
    ∃ s, k s ∧ ∀ (w : World) (E : Nat → Prop) (σ : Sg) (vx : Value), Rep w E σ x vx → ∃ v, (Op.unary op vx).run P w = .ok v w ∧ Rep w E σ s v := by
  cases op <;> cases x <;> simp only [unK] at h
  case neg.int q n => exact ⟨_, h, fun w E σ vx r => by cases r; exact ⟨_, by simp [Op.unary, Op.intArith], .int⟩⟩
  case xor.int q n => exact ⟨_, h, fun w E σ vx r => by cases r; exact ⟨_, by simp [Op.unary, Op.intBits], .int⟩⟩
  case not.tt => exact ⟨_, h, fun w E σ vx r => by cases r; exact ⟨.bool false, by simp [Op.unary], .ff⟩⟩
  case not.ff => exact ⟨_, h, fun w E σ vx r => by cases r; exact ⟨.bool true, by simp [Op.unary], .tt⟩⟩
  case not.bool b => exact ⟨_, h, fun w E σ vx r => by cases r; exact ⟨.bool (!b), by simp [Op.unary], .bool⟩⟩

end
end Go.Sx

/- The symbolic executor is sound: each operation, the rest. No statement of the seat is proved here. -/
import Derived.Test.YthlomoacacebeacSxG
namespace Go.Sx
section
variable {P : Program} {T : Tab}

def OpGood (P : Program) (F : Fr) (h : Hp) (op : Op) (K : Kop) : Prop := ∃ s ws rds, K s ws rds ∧ OpOK P F h op s ws rds

theorem good_pure {F : Fr} {h : Hp} {op : Op} {K : Kop} {s : SV} {rds : List Nat} (hk : K s [] rds)
    (hx : ∀ (w : World) (E : Nat → Prop) (σ : Sg) (ρ : Operand → Value) (d : Option Tmp) (ty : TypeId) (pos : String) (after : Array Edge) (guard : Option (Nat × Bool)),
      (∀ x ∈ op.operands.toList, OpnRep w E σ F ρ x) → ∃ v, (execOp ρ ⟨d, op, ty, pos, after, guard⟩).run P w = .ok (.value v) w ∧ Rep w E σ s v) : OpGood P F h op K :=
  ⟨s, [], rds, hk, OpOK.pure hx⟩

theorem move_ok {F : Fr} {h : Hp} {nid : Nat} {x : Operand} {K : Kop} (hk : opK T F h nid (.move x) K) : OpGood P F h (.move x) K := by
  obtain ⟨s, hk, hx⟩ := evK_sound (show evK F x _ from hk)
  exact good_pure hk fun w E σ ρ d ty pos after guard ho => ⟨ρ x, rfl, hx w E σ ρ (ho x (by simp [Op.operands]))⟩
theorem assign_ok {F : Fr} {h : Hp} {nid : Nat} {x : Operand} {K : Kop} (hk : opK T F h nid (.assign x) K) : OpGood P F h (.assign x) K := by
  obtain ⟨s, hk, hx⟩ := evK_sound (show evK F x _ from hk)
  exact good_pure hk fun w E σ ρ d ty pos after guard ho => ⟨ρ x, rfl, hx w E σ ρ (ho x (by simp [Op.operands]))⟩
theorem pick_ok {F : Fr} {h : Hp} {nid : Nat} {c a b : Operand} {K : Kop} (hk : opK T F h nid (.pick c a b) K) : OpGood P F h (.pick c a b) K := by
  obtain ⟨sc, hk, hc⟩ := evK_sound (show evK F c _ from hk)
  have hoc : ∀ (w : World) (E : Nat → Prop) (σ : Sg) (ρ : Operand → Value), (∀ x ∈ (Op.pick c a b).operands.toList, OpnRep w E σ F ρ x) → Rep w E σ sc (ρ c) := fun w E σ ρ ho => hc w E σ ρ (ho c (by simp [Op.operands]))
  cases sc with
  | tt =>
    obtain ⟨s, hk, hx⟩ := evK_sound (show evK F a _ from hk)
    exact good_pure hk fun w E σ ρ d ty pos after guard ho => by
      have h1 := hoc w E σ ρ ho
      have h2 := hx w E σ ρ (ho a (by simp [Op.operands]))
      generalize hρ : ρ c = vc at h1
      cases h1
      exact ⟨ρ a, by simp [execOp, hρ, asBool], h2⟩
  | ff =>
    obtain ⟨s, hk, hx⟩ := evK_sound (show evK F b _ from hk)
    exact good_pure hk fun w E σ ρ d ty pos after guard ho => by
      have h1 := hoc w E σ ρ ho
      have h2 := hx w E σ ρ (ho b (by simp [Op.operands]))
      generalize hρ : ρ c = vc at h1
      cases h1
      exact ⟨ρ b, by simp [execOp, hρ, asBool], h2⟩
  | bool x =>
    obtain ⟨sa, hk, ha⟩ := evK_sound (show evK F a _ from hk)
    obtain ⟨va, hk, hva⟩ := asB_sound hk
    obtain ⟨sb, hk, hb⟩ := evK_sound hk
    obtain ⟨vb, hk, hvb⟩ := asB_sound hk
    exact good_pure hk fun w E σ ρ d ty pos after guard ho => by
      have h1 := hoc w E σ ρ ho
      have h2 := hva _ _ _ _ (ha w E σ ρ (ho a (by simp [Op.operands])))
      have h3 := hvb _ _ _ _ (hb w E σ ρ (ho b (by simp [Op.operands])))
      generalize hρ : ρ c = vc at h1
      cases h1
      refine ⟨.bool (cond x va vb), ?_, .bool⟩
      simp only [execOp, hρ, h2, h3, asBool, Sem.run_bind, Sem.run_pure, Result.andThen_ok]
      cases x <;> rfl
  | _ => exact hk.elim

theorem alloc_ok (hT : TabOK P T) {F : Fr} {h : Hp} {nid : Nat} (hf : h[nid]? = some .fresh) {t : TypeId} {K : Kop} (hk : opK T F h nid (.alloc t) K) : OpGood P F h (.alloc t) K := by
  replace hk := tyK_sound hT (show tyK T t _ from hk)
  have hi : ∃ i, P.info? t = some i ∧ (teOf P t).zero = zeroOf i := by
    cases hi : P.info? t with
    | none => simp only [teOf, hi] at hk; exact hk.elim
    | some i => exact ⟨i, rfl, by simp [teOf, hi]⟩
  obtain ⟨i, hi, hz⟩ := hi
  rw [hz] at hk
  obtain ⟨hk, z, hz1, hz2, hz3, _⟩ := zeroK_sound hk
  refine ⟨_, _, _, hk, fun w X σ h2 ρ d ty pos after guard hI ho hrd => ?_, by simp⟩
  have hf' : h2[nid]? = some .fresh := (hrd nid (by simp)).trans hf
  obtain ⟨hl, hr⟩ := zero_rep (w := w) (E := Ex X σ) (σ := σ) hz3
  rw [← hz2] at hl hr
  have hn := new_fix hI hf' (t := t) hl hr
  unfold OpRes DoneS
  rw [show execOp ρ ⟨d, .alloc t, ty, pos, after, guard⟩ = (do pure (.value (← Instr.alloc t true (.tuple #[])))) from rfl,
    run_val (v := .pointer (some ⟨w.heap.size, 0, none⟩)) (w' := w.alloc (.cells z.cells t)) (by simp [Instr.alloc, zeroValue, run_info hi, hz1, newVar, newRow])]
  exact hn
theorem box_ok {F : Fr} {h : Hp} {nid : Nat} (hf : h[nid]? = some .fresh) {t : TypeId} {x : Operand} {K : Kop} (hk : opK T F h nid (.box t x) K) : OpGood P F h (.box t x) K := by
  obtain ⟨s, hk, hx⟩ := evK_sound (show evK F x _ from hk)
  obtain ⟨c, hk, hc⟩ := cellsK_all hk
  refine ⟨_, _, _, hk, fun w X σ h2 ρ d ty pos after guard hI ho hrd => ?_, by simp⟩
  have hf' : h2[nid]? = some .fresh := (hrd nid (by simp)).trans hf
  obtain ⟨hl, hr⟩ := hc w _ σ _ (hx w _ σ ρ (ho x (by simp [Op.operands])))
  have hn := new_fix hI hf' (t := t) hl hr
  unfold OpRes DoneS
  rw [show execOp ρ ⟨d, .box t x, ty, pos, after, guard⟩ = (do pure (.value (← Instr.box t (ρ x)))) from rfl,
    run_val (v := .pointer (some ⟨w.heap.size, 0, none⟩)) (w' := w.alloc (.cells (ρ x).cells t)) (by simp [Instr.box, newVar, newRow])]
  exact hn
theorem binOp_ok (hT : TabOK P T) {F : Fr} {h : Hp} {nid : Nat} {op : BinOp} {t u : TypeId} {x y : Operand} {K : Kop} (hk : opK T F h nid (.binOp op t x y u) K) : OpGood P F h (.binOp op t x y u) K := by
  obtain ⟨sx, hk, hx⟩ := evK_sound (show evK F x _ from hk)
  obtain ⟨sy, hk, hy⟩ := evK_sound (show evK F y _ from hk)
  obtain ⟨s, hk, hb⟩ := binK_sound hT hk
  exact good_pure hk fun w E σ ρ d ty pos after guard ho => by
    obtain ⟨v, hv, hr⟩ := hb w E σ _ _ x y (hx w E σ ρ (ho x (by simp [Op.operands]))) (hy w E σ ρ (ho y (by simp [Op.operands])))
    exact ⟨v, run_val hv, hr⟩
theorem unOp_ok {F : Fr} {h : Hp} {nid : Nat} {op : UnOp} {t : TypeId} {x : Operand} {K : Kop} (hk : opK T F h nid (.unOp op t x) K) : OpGood P F h (.unOp op t x) K := by
  obtain ⟨sx, hk, hx⟩ := evK_sound (show evK F x _ from hk)
  obtain ⟨s, hk, hb⟩ := unK_sound (P := P) hk
  exact good_pure hk fun w E σ ρ d ty pos after guard ho => by
    obtain ⟨v, hv, hr⟩ := hb w E σ _ (hx w E σ ρ (ho x (by simp [Op.operands])))
    exact ⟨v, run_val hv, hr⟩
theorem extract_ok {F : Fr} {h : Hp} {nid : Nat} {x : Operand} {i : Nat} {K : Kop} (hk : opK T F h nid (.extract x i) K) : OpGood P F h (.extract x i) K := by
  obtain ⟨sx, hk, hx⟩ := evK_sound (show evK F x _ from hk)
  cases sx with
  | tup vs =>
    obtain ⟨s, hs, hk⟩ := nthK_sound (show nthK vs i _ from hk)
    exact good_pure hk fun w E σ ρ d ty pos after guard ho => by
      have h1 := hx w E σ ρ (ho x (by simp [Op.operands]))
      generalize hρ : ρ x = vx at h1
      cases h1 with
      | tup hl hc =>
        rename_i vals
        have hi : i < vals.size := by rw [← hl]; exact (List.getElem?_eq_some_iff.1 hs).1
        have hv : vals[i]? = some (vals[i]'hi) := Array.getElem?_eq_getElem hi
        exact ⟨_, run_val (by rw [hρ]; simp [Instr.extract, hv]), hc i s _ hs hv⟩
  | _ => exact hk.elim
theorem field_ok (hT : TabOK P T) {F : Fr} {h : Hp} {nid : Nat} {t : TypeId} {x : Operand} {f : Nat} {K : Kop} (hk : opK T F h nid (.field t x f) K) : OpGood P F h (.field t x f) K := by
  replace hk := tyK_sound hT (show tyK T t _ from hk)
  obtain ⟨sx, hk, hx⟩ := evK_sound hk
  generalize hti : (teOf P t).ti = ti at hk
  obtain ⟨fs, cs, hti', hsx, hk⟩ : ∃ fs cs, ti = .struct fs ∧ sx = .agg cs ∧ nthK fs f fun p => partK T cs p.1 p.2.1 fun s => K s [] [] := by
    cases ti with
    | struct fs => cases sx with
      | agg cs => exact ⟨fs, cs, rfl, rfl, hk⟩
      | _ => exact hk.elim
    | _ => cases sx <;> exact hk.elim
  subst hti'; subst hsx
  obtain ⟨q, hq, hk⟩ := nthK_sound (show nthK fs f _ from hk)
  obtain ⟨s, n, b, hkk, h1, h2, h3, h4⟩ := partK_sound hT hk
  obtain ⟨fields, hu, hfs, _⟩ := und_struct (ti_of hti (by simp)).1
  subst hfs
  rw [List.getElem?_map, Array.getElem?_toList] at hq
  cases hff : fields[f]? with
  | none => rw [hff] at hq; simp at hq
  | some fd =>
    rw [hff] at hq
    simp at hq; subst hq
    exact good_pure hkk fun w E σ ρ d ty pos after guard ho => by
      have hr := hx w E σ ρ (ho x (by simp [Op.operands]))
      generalize hρ : ρ x = vx at hr
      cases hr with
      | agg hl hone hc =>
        obtain ⟨v, hv, hrep⟩ := part_sound (P := P) (w := w) (h1 w) (h2 w) h3 h4 hl hone hc
        exact ⟨v, run_val (by rw [hρ]; simp [Instr.field, run_underlying' hu, hff, asAgg, hv]), hrep⟩
theorem index_ok (hT : TabOK P T) {F : Fr} {h : Hp} {nid : Nat} {t : TypeId} {x i : Operand} {K : Kop} (hk : opK T F h nid (.index t x i) K) : OpGood P F h (.index t x i) K := by
  replace hk := tyK_sound hT (show tyK T t _ from hk)
  obtain ⟨sx, hk, hx⟩ := evK_sound hk
  obtain ⟨si, hk, hi⟩ := evK_sound hk
  generalize hti : (teOf P t).ti = ti at hk
  obtain ⟨s, q, n, hti', hsx, hsi, hk⟩ : ∃ s q n, ti = .str ∧ sx = .str s ∧ si = .int q n ∧ (0 ≤ n ∧ n < (s.length : Int)) ∧ K (.int .u8 ((s.getD n.toNat 0).toNat : Int)) [] [] := by
    cases ti with
    | str => cases sx with
      | str s => cases si with
        | int q n => exact ⟨s, q, n, rfl, rfl, rfl, hk⟩
        | _ => exact hk.elim
      | _ => cases si <;> exact hk.elim
    | _ => cases sx <;> cases si <;> exact hk.elim
  subst hti'; subst hsx; subst hsi
  have hu := und_str (ti_of hti (by simp)).1
  obtain ⟨⟨h0, h1⟩, hk⟩ := hk
  exact good_pure hk fun w E σ ρ d ty pos after guard ho => by
    have hr := hx w E σ ρ (ho x (by simp [Op.operands]))
    have hr2 := hi w E σ ρ (ho i (by simp [Op.operands]))
    generalize hρ : ρ x = vx at hr
    generalize hρi : ρ i = vi at hr2
    cases hr; cases hr2
    have hlt : n.toNat < s.length := by omega
    have hget : (⟨s.toArray⟩ : ByteArray)[n.toNat]? = some s[n.toNat] := by
      rw [getElem?_pos (⟨s.toArray⟩ : ByteArray) n.toNat (by simpa [ByteArray.size] using hlt)]
      rfl
    refine ⟨_, run_val (v := .int .u8 ((s.getD n.toNat 0).toNat : Int)) ?_, .int⟩
    rw [hρ, hρi]
    simp [Instr.index, asIntOf, run_underlying' hu, h0, hget, List.getD_eq_getElem?_getD, List.getElem?_eq_getElem hlt]
theorem nilCheck_ok {F : Fr} {h : Hp} {nid : Nat} {x : Operand} {K : Kop} (hk : opK T F h nid (.nilCheck x) K) : OpGood P F h (.nilCheck x) K := by
  obtain ⟨sx, hk, hx⟩ := evK_sound (show evK F x _ from hk)
  cases sx <;> try exact hk.elim
  all_goals
    exact good_pure hk fun w E σ ρ d ty pos after guard ho => by
      have hr := hx w E σ ρ (ho x (by simp [Op.operands]))
      refine ⟨ρ x, ?_, hr⟩
      generalize hρ : ρ x = vx at hr
      cases hr <;> simp [execOp, hρ]
theorem fieldAddr_ok (hT : TabOK P T) {F : Fr} {h : Hp} {nid : Nat} {t : TypeId} {x : Operand} {f : Nat} {K : Kop} (hk : opK T F h nid (.fieldAddr t x f) K) : OpGood P F h (.fieldAddr t x f) K := by
  replace hk := tyK_sound hT (show tyK T t _ from hk)
  obtain ⟨sx, hk, hx⟩ := evK_sound hk
  generalize hti : (teOf P t).ti = ti at hk
  cases ti with
  | struct fs =>
    obtain ⟨fields, hu, hfs, hinfo⟩ := und_struct (ti_of hti (by simp)).1
    -- the field
    have key : ∀ {q : Nat × TypeId × Nat}, fs[f]? = some q → q.2.2 ≠ 0 → ∀ (w : World) (ρ : Operand → Value) (a : Addr), ρ x = .pointer (some a) →
        (Instr.fieldAt t (ρ x) f).run P w = .ok (.pointer (some (a.add q.1))) w := by
      intro q hq hne w ρ a ha
      subst hfs
      rw [List.getElem?_map, Array.getElem?_toList] at hq
      cases hff : fields[f]? with
      | none => rw [hff] at hq; simp at hq
      | some fd =>
        rw [hff] at hq
        simp at hq; subst hq
        have hin := hinfo fd (by simpa using Array.mem_of_getElem? hff)
        obtain ⟨i, hi⟩ := Option.isSome_iff_exists.1 hin
        have hc : P.cellsOf fd.type = i.size := by simp [Program.cellsOf, hi]
        rw [hc] at hne
        simp [Instr.fieldAt, run_underlying' hu, hff, ha, Instr.sureAddr, fieldPlace, run_sizeOf hi, hne]
    cases sx with
    | ptr b off =>
      obtain ⟨q, hq, hk⟩ := nthK_sound (show nthK fs f _ from hk)
      obtain ⟨hne, hk⟩ := neK_sound hk
      exact good_pure hk fun w E σ ρ d ty pos after guard ho => by
        have hr := hx w E σ ρ (ho x (by simp [Op.operands]))
        generalize hρ : ρ x = vx at hr
        cases hr with
        | ptr h' => exact ⟨_, run_val (key hq hne w ρ _ hρ), by rw [addr_add]; exact .ptr h'⟩
        | ptrD h' => exact ⟨_, run_val (key hq hne w ρ _ hρ), by rw [addr_add]; exact .ptrD h'⟩
    | ep b i o =>
      obtain ⟨q, hq, hk⟩ := nthK_sound (show nthK fs f _ from hk)
      obtain ⟨hne, hk⟩ := neK_sound hk
      exact good_pure hk fun w E σ ρ d ty pos after guard ho => by
        have hr := hx w E σ ρ (ho x (by simp [Op.operands]))
        generalize hρ : ρ x = vx at hr
        cases hr with
        | ep h' => exact ⟨_, run_val (key hq hne w ρ _ hρ), by rw [addr_add, Nat.add_assoc]; exact .ep h'⟩
        | epD h' => exact ⟨_, run_val (key hq hne w ρ _ hρ), by rw [addr_add]; exact .epD h'⟩
    | rp z es i o =>
      obtain ⟨q, hq, hk⟩ := nthK_sound (show nthK fs f _ from hk)
      obtain ⟨hne, hk⟩ := neK_sound hk
      exact good_pure hk fun w E σ ρ d ty pos after guard ho => by
        have hr := hx w E σ ρ (ho x (by simp [Op.operands]))
        generalize hρ : ρ x = vx at hr
        cases hr with
        | rp hE hlt hlen hcell hone hrep => exact ⟨_, run_val (key hq hne w ρ _ hρ), by rw [add_add, Nat.add_assoc]; exact .rp hE hlt hlen hcell hone hrep⟩
    | _ => exact hk.elim
  | _ => cases sx <;> exact hk.elim
end
end Go.Sx

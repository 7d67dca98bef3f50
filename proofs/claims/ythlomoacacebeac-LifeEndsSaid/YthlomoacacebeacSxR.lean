/- Regions whose order is drawn: the executor is sound. No statement of the seat is proved here. -/
import Derived.Test.YthlomoacacebeacSxQ
namespace Go.Sx
section
variable {P : Program} {T : Tab} {ops : Array Oper} {recs : List Rec} {F0 : Fr} {h0 : Hp}

theorem Run.plan {Ff : Fr} {hf : Hp} (hr : Run P ops F0 h0 ops.toList recs Ff hf) (hi : indepB ops (recs.map markOf) = true) :
    Plan P ops recs F0 h0 ∧ Ff = FL ops.toList recs F0 (fun _ => true) ops.size ∧ hf = HL recs h0 (fun _ => true) ops.size := by
  have hr0 : Run P ops (FL ops.toList recs F0 (fun _ => true) 0) (HL recs h0 (fun _ => true) 0) ops.toList recs Ff hf := hr
  obtain ⟨a1, a2, a3, a4⟩ := hr0.at (ops := ops) (recs := recs) ops.toList (fun i => by rw [Nat.zero_add]) (fun i => by rw [Nat.zero_add])
  have hlen : recs.length = ops.size := by rw [a1]; simp
  refine ⟨⟨hlen, fun i o r ho hrc => by have := a2 i o r (by rw [Array.getElem?_toList]; exact ho) hrc; rwa [Nat.zero_add] at this, fun i o r ho hrc => ?_⟩, by rw [a3]; simp, by rw [a4]; simp⟩
  unfold indepB at hi
  rw [Bool.and_eq_true] at hi
  have := indepGo_spec (ops := ops) (ops.toList.zip (recs.map markOf)) (done := []) (cl := []) rfl (by simp) hi.2 i (o, markOf r) (Nat.zero_le _) (by
    rw [List.nil_append, List.getElem?_zip_eq_some]
    exact ⟨by rw [Array.getElem?_toList]; exact ho, by rw [List.getElem?_map, hrc]; rfl⟩)
  simpa using this

theorem mem_preds {o : Oper} {e : Edge} (he : e ∈ o.after) (hb : Region.binds .any e = true) : e.on ∈ predsOf o := by
  unfold predsOf
  exact List.mem_filterMap.2 ⟨e, Array.mem_toList_iff.2 he, by simp [hb]⟩
theorem preds_mem {o : Oper} {p : Nat} (h : p ∈ predsOf o) : ∃ e ∈ o.after, Region.binds .any e = true ∧ e.on = p := by
  unfold predsOf at h
  obtain ⟨e, he, h⟩ := List.mem_filterMap.1 h
  cases hb : Region.binds .any e
  · simp [hb] at h
  · simp [hb] at h; exact ⟨e, Array.mem_toList_iff.1 he, hb, h⟩

def listedB (listed : Array Bool) (j : Nat) : Bool := listed.getD j false

theorem listed_add {listed : Array Bool} {i : Nat} (hi : i < listed.size) : listedB (listed.setIfInBounds i true) = add (listedB listed) i := by
  funext j
  simp only [listedB, add]
  by_cases h : i = j
  · subst h; simp [hi]
  · rw [getD_set_ne false h, show (j == i) = false from by simp; omega]; simp

theorem all_of_none (hp : Plan P ops recs F0 h0) {listed : Array Bool} (hs : listed.size = ops.size) (hr : Region.ready .any ops listed = []) : ∀ i, i < ops.size → listedB listed i = true := by
  intro i
  induction i using Nat.strongRecOn with
  | _ i ih =>
    intro hi
    cases hc : listedB listed i with
    | true => rfl
    | false =>
      have hoi : ops[i]? = some ops[i] := Array.getElem?_eq_getElem hi
      have hmem : i ∈ Region.ready .any ops listed := by
        rw [mem_ready]
        refine ⟨?_, _, hoi, fun e he hb => ?_⟩
        · have : listedB listed i = listed.getD i true := by simp [listedB, Array.getD_eq_getD_getElem?, show i < listed.size by omega]
          rw [← this]; exact hc
        · have hlt := (hp.pairs i _ _ hoi (hp.rcd hoi)).1 e.on (mem_preds he hb)
          exact ih e.on hlt (by omega)
      rw [hr] at hmem; simp at hmem

theorem draw_sound (hp : Plan P ops recs F0 h0) {m : Nat} {X : Nat → Prop} {w0 : World} {σ0 : Sg} {K : Fr → Hp → Prop} (hK : K (FL ops.toList recs F0 (fun _ => true) ops.size) (HL recs h0 (fun _ => true) ops.size)) :
    ∀ (fuel : Nat) (listed : Array Bool) (U : List Nat) (a : Act) (w : World) (σ : Sg), listed.size = ops.size → Ideal ops.toList (listedB listed) → U.length ≤ fuel → (∀ i, i < ops.size → listedB listed i = false → i ∈ U) →
      a.defers = [] → Inv w X σ (HL recs h0 (listedB listed) ops.size) → FRep w (Ex X σ) σ (FL ops.toList recs F0 (listedB listed) ops.size) a.tmps → Step m w0 σ0 w σ →
      wpAny P .any ops (SPost m X w0 σ0 fun x F h => x = .normal ∧ K F h) fuel listed a w := by
  intro fuel
  have done : ∀ (listed : Array Bool) (a : Act) (w : World) (σ : Sg), (∀ i, i < ops.size → listedB listed i = true) →
      a.defers = [] → Inv w X σ (HL recs h0 (listedB listed) ops.size) → FRep w (Ex X σ) σ (FL ops.toList recs F0 (listedB listed) ops.size) a.tmps → Step m w0 σ0 w σ →
      SPost m X w0 σ0 (fun x F h => x = .normal ∧ K F h) .normal a w := by
    intro listed a w σ hall hd hI hF hS
    have e1 : FL ops.toList recs F0 (listedB listed) ops.size = FL ops.toList recs F0 (fun _ => true) ops.size := by
      apply List.ext_getElem?
      intro t
      exact FL_same ops.size fun j hj _ => hall j hj
    have e2 : HL recs h0 (listedB listed) ops.size = HL recs h0 (fun _ => true) ops.size := by
      apply List.ext_getElem?
      intro t
      exact HL_same ops.size fun j hj _ => hall j hj
    rw [e1] at hF; rw [e2] at hI
    exact ⟨hd, .normal, _, _, σ, rfl, ⟨rfl, hK⟩, hI, hF, hS⟩
  induction fuel with
  | zero =>
    intro listed U a w σ hs hL hU hun hd hI hF hS
    have hU : U = [] := List.length_eq_zero_iff.1 (by omega)
    subst hU
    have hall : ∀ i, i < ops.size → listedB listed i = true := fun i hi => by
      cases hc : listedB listed i with
      | true => rfl
      | false => exact absurd (hun i hi hc) (by simp)
    refine ⟨?_, done listed a w σ hall hd hI hF hS⟩
    rw [List.eq_nil_iff_forall_not_mem]
    intro i hi
    rw [mem_ready] at hi
    obtain ⟨h1, o, ho, _⟩ := hi
    have hlt : i < ops.size := (Array.getElem?_eq_some_iff.1 ho).1
    have := hall i hlt
    simp [listedB, Array.getD_eq_getD_getElem?, show i < listed.size by omega] at this h1
    rw [this] at h1; simp at h1
  | succ fuel ih =>
    intro listed U a w σ hs hL hU hun hd hI hF hS
    refine ⟨fun hr => done listed a w σ (all_of_none hp hs hr) hd hI hF hS, fun i hi => ?_⟩
    rw [mem_ready] at hi
    obtain ⟨h1, o, ho, hpre⟩ := hi
    have hlt : i < ops.size := (Array.getElem?_eq_some_iff.1 ho).1
    have hiL : listedB listed i = false := by
      simp [listedB, Array.getD_eq_getD_getElem?, show i < listed.size by omega] at h1 ⊢; exact h1
    have hpre' : ∀ p ∈ predsOf o, listedB listed p = true := fun p hpm => by
      obtain ⟨e, he, hb, hep⟩ := preds_mem hpm
      rw [← hep]; exact hpre e he hb
    have hgood := hp.good i o _ ho (hp.rcd ho)
    have hlooks : ∀ t ∈ o.looksAt ops, ∀ s, (FL ops.toList recs F0 (fun _ => true) i)[t]? = some s → ∃ v, a.tmps[t]? = some v ∧ Rep w (Ex X σ) σ s v := fun t ht s hts => by
      rw [← hp.slot hL ho hpre' hiL ht] at hts
      exact hF.get hts
    have hcell : ∀ r ∈ (recAt recs i).rds, (HL recs h0 (listedB listed) ops.size)[r]? = (HL recs h0 (fun _ => true) i)[r]? := fun r hr => hp.cell hL ho hpre' hiL hr
    have hs' : (listed.setIfInBounds i true).size = ops.size := by simp [hs]
    have hL' : Ideal ops.toList (listedB (listed.setIfInBounds i true)) := by
      rw [listed_add (by omega)]
      intro j oj hoj hjL p hpm
      simp only [add, Bool.or_eq_true, beq_iff_eq] at hjL ⊢
      rcases hjL with hjL | hjL
      · exact .inl (hL j oj hoj hjL p hpm)
      · subst hjL
        rw [Array.getElem?_toList, ho] at hoj
        simp at hoj; subst hoj
        exact .inl (hpre' p hpm)
    have hmemU : i ∈ U := hun i hlt hiL
    have hU' : (U.erase i).length ≤ fuel := by
      rw [List.length_erase_of_mem hmemU]; omega
    have hun' : ∀ j, j < ops.size → listedB (listed.setIfInBounds i true) j = false → j ∈ U.erase i := fun j hj hjL => by
      rw [listed_add (by omega)] at hjL
      simp only [add, Bool.or_eq_false_iff, beq_eq_false_iff_ne] at hjL
      exact (List.mem_erase_of_ne hjL.2).2 (hun j hj hjL.1)
    have hput : ∀ (v : Value) (w' : World) (σ' : Sg), FRep w' (Ex X σ') σ' (FL ops.toList recs F0 (listedB listed) ops.size) a.tmps → Rep w' (Ex X σ') σ' (recAt recs i).s v →
        FRep w' (Ex X σ') σ' (FL ops.toList recs F0 (listedB (listed.setIfInBounds i true)) ops.size) (a.put o.dst v).tmps ∧ (a.put o.dst v).defers = [] := by
      intro v w' σ' hF' hr
      rw [listed_add (by omega), hp.addF hL ho hiL]
      cases o.dst with
      | none => exact ⟨hF', hd⟩
      | some d => exact ⟨hF'.set hr, hd⟩
    unfold wpOp
    rw [ho]
    simp only []
    rcases hgood.go w X σ _ a hI hlooks hcell with ⟨hw, hop⟩ | ⟨hw, hsu, hwu⟩
    · rw [if_pos hw]
      refine .inl (wp_of_done hop fun v w' ⟨σ', hr, hI', hS', _⟩ => ?_)
      obtain ⟨h3, h4⟩ := hput v w' σ' (hF.step hS' (Nat.le_refl _)) hr
      refine ih _ _ _ w' σ' hs' hL' hU' hun' h4 ?_ h3 (hS.trans hS'.any)
      rw [listed_add (by omega), hp.addH hL ho hiL]
      exact hI'
    · rw [if_neg (by rw [hw]; simp)]
      obtain ⟨h3, h4⟩ := hput Go.undef w σ hF (by rw [hsu]; exact .undef)
      refine ih _ _ _ w σ hs' hL' hU' hun' h4 ?_ h3 hS
      rw [listed_add (by omega), hp.addH hL ho hiL, hwu]
      exact hI

theorem resvK_sound (l : List Oper) : ∀ {h : Hp} {k : List Nat → Hp → Prop}, resvK T l h k → ∃ ns h', k ns h' ∧
    ∀ (w : World) (X : Nat → Prop) (σ : Sg), Inv w X σ h → ∃ σ', Inv w X σ' h' ∧ Step σ.length w σ w σ' := by
  induction l with
  | nil => intro h k hk; exact ⟨[], h, hk, fun w X σ hI => ⟨σ, hI, .refl _ _ _⟩⟩
  | cons o l ih =>
    intro h k hk
    have hk : (match needs T o.op with
      | true => idK h supply fun n => appK h [.fresh] fun h' => resvK T l h' fun ns h'' => k (n :: ns) h''
      | false => resvK T l h fun ns h'' => k (0 :: ns) h'') := hk
    cases hn : needs T o.op with
    | true =>
      rw [hn] at hk
      obtain ⟨n, _, hk⟩ := idK_sound hk
      have hk := appK_sound hk
      obtain ⟨ns, h', hk, hs⟩ := ih hk
      refine ⟨_, h', hk, fun w X σ hI => ?_⟩
      obtain ⟨hI1, hS1⟩ := hI.fresh
      obtain ⟨σ', hI', hS'⟩ := hs w X _ hI1
      exact ⟨σ', hI', hS1.trans (hS'.le (by simp))⟩
    | false =>
      rw [hn] at hk
      obtain ⟨ns, h', hk, hs⟩ := ih hk
      exact ⟨_, h', hk, hs⟩

theorem Inv.heap {w w' : World} {X : Nat → Prop} {σ : Sg} {h : Hp} (hI : Inv w X σ h) (he : w'.heap = w.heap) : Inv w' X σ h := by
  have hmono : ∀ (E : Nat → Prop) (τ : Sg) (s : SV) (v : Value), Rep w E τ s v → Rep w' E τ s v := fun E τ s v hr =>
    hr.mono τ (fun g _ _ => by rw [he]) (by rw [he]; exact Nat.le_refl _) (fun _ _ h => h) (fun i e h _ => .inl h)
  refine ⟨hI.len, fun i b e hb hee => ?_, fun i e g h1 h2 => by rw [he]; exact hI.lt i e g h1 h2, hI.inj, hI.dis, fun g hx => by rw [he]; exact hI.xlt g hx⟩
  have := hI.ok i b e hb hee
  cases b <;> cases e <;> simp only [BlkOK] at this ⊢
  case fix.fix =>
    obtain ⟨vs, h1, h2, h3⟩ := this
    exact ⟨vs, by rw [he]; exact h1, h2, fun i s v hs hv => ⟨hmono _ _ _ _ (h3 i s v hs hv).1, (h3 i s v hs hv).2⟩⟩
  case row.row =>
    obtain ⟨h1, h2, h3, h4, vs, h5, h6, h7⟩ := this
    refine ⟨h1, h2, h3, h4, vs, h5.same (by rw [he]), h6, fun i e he' => ⟨(h7 i e he').1, fun j s hs => ?_⟩⟩
    obtain ⟨v, a, b, c⟩ := (h7 i e he').2 j s hs
    exact ⟨v, a, hmono _ _ _ _ b, c⟩
  all_goals exact this

/-- A REGION WHOSE ORDER IS DRAWN: one run in the text's order, and what is not ordered apart. -/
theorem DrawG.of (hm : P.follows .mixedOrders = true) (hT : TabOK P T) {m : Nat} {id : Nat} {F : Fr} {h : Hp} {K : Fr → Hp → Prop} (hk : drawK P T ops F h K) : DrawG P m id ops F h K := by
  refine ⟨fun w X σ tmps hI hF => wp_region_any hm ?_⟩
  obtain ⟨ids, h', hk, hres⟩ := resvK_sound ops.toList hk
  obtain ⟨rs, F', h'', hk, hrun⟩ := dopsK_sound hT ops.toList hk
  obtain ⟨hind, hk⟩ := marksK_sound hk
  obtain ⟨hp, e1, e2⟩ := hrun.plan hind
  subst e1; subst e2
  obtain ⟨σ1, hI1, hS1⟩ := hres w X σ hI
  have hF1 := hF.step hS1 (Nat.le_refl _)
  have hS2 : Step σ1.length w σ1 { w with drawn := w.drawn + 1 } σ1 := ⟨rfl, rfl, rfl, Nat.le_refl _, fun _ _ _ => rfl, fun _ h _ => h, fun _ _ _ h _ => .inl h⟩
  have hF2 := hF1.step hS2 (Nat.le_refl _)
  have hI2 : Inv { w with drawn := w.drawn + 1 } X σ1 h' := hI1.heap rfl
  have hL0 : ∀ k, FL ops.toList rs F (listedB (Array.replicate ops.size false)) k = F := by
    intro k
    induction k with
    | zero => rfl
    | succ k ih =>
      simp only [FL]
      rw [if_neg, ih]
      simp only [listedB, Array.getD_eq_getD_getElem?, Array.getElem?_replicate]
      split <;> simp
  have hH0 : ∀ k, HL rs h' (listedB (Array.replicate ops.size false)) k = h' := by
    intro k
    induction k with
    | zero => rfl
    | succ k ih =>
      simp only [HL]
      rw [if_neg, ih]
      simp only [listedB, Array.getD_eq_getD_getElem?, Array.getElem?_replicate]
      split <;> simp
  have hbf : ∀ i, listedB (Array.replicate ops.size false) i = false := fun i => by
    simp only [listedB, Array.getD_eq_getD_getElem?, Array.getElem?_replicate]
    split <;> simp
  refine draw_sound hp hk ops.size _ (List.range ops.size) ⟨tmps, []⟩ _ σ1 (by simp) (fun i o _ hi => by rw [hbf] at hi; simp at hi) (by simp) (fun i hi _ => List.mem_range.2 hi) rfl ?_ ?_ (hS1.any.trans hS2.any)
  · rw [hH0]; exact hI2
  · rw [hL0]; exact hF2
end
end Go.Sx

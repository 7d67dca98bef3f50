/- Regions whose order is drawn: the one run in the text's order serves every order. No statement of the seat is proved here. -/
import Derived.Test.YthlomoacacebeacSxP
namespace Go.Sx
section
variable {P : Program} {T : Tab}

def markOf (r : Rec) : Mk := (r.ws.map (·.1), r.rds)
theorem fstsK_sound {ws : Ws} : ∀ {k : List Nat → Prop}, fstsK ws k → k (ws.map (·.1)) := by
  induction ws with
  | nil => intro k h; exact h
  | cons p ws ih => intro k h; exact ih (k := fun l => k (p.1 :: l)) h
theorem marksK_sound {rs : List Rec} : ∀ {k : List Mk → Prop}, marksK rs k → k (rs.map markOf) := by
  induction rs with
  | nil => intro k h; exact h
  | cons r rs ih =>
    intro k h
    have h := fstsK_sound (show fstsK r.ws _ from h)
    exact ih (k := fun l => k (markOf r :: l)) h

def Ideal (ops : List Oper) (L : Nat → Bool) : Prop := ∀ (i : Nat) (o : Oper), ops[i]? = some o → L i = true → ∀ p ∈ predsOf o, L p = true
def ClosOK (ops : List Oper) (i : Nat) (c : Nat) : Prop := ∀ (L : Nat → Bool) (o : Oper), Ideal ops L → ops[i]? = some o → (∀ p ∈ predsOf o, L p = true) → ∀ j, c.testBit j = true → L j = true

theorem closAt_spec {cl : List Nat} (ps : List Nat) {j : Nat} : ∀ {m : Nat}, (ps.foldl (fun m j => m ||| 2 ^ j ||| cl.getD j 0) m).testBit j = true → m.testBit j = true ∨ ∃ p ∈ ps, p = j ∨ (cl.getD p 0).testBit j = true := by
  induction ps with
  | nil => intro m h; exact .inl h
  | cons p ps ih =>
    intro m h
    rcases ih h with h | ⟨q, hq, h⟩
    · rw [Nat.testBit_or, Nat.testBit_or, Nat.testBit_two_pow] at h
      simp only [Bool.or_eq_true, decide_eq_true_eq] at h
      rcases h with (h | h) | h
      · exact .inl h
      · exact .inr ⟨p, by simp, .inl h⟩
      · exact .inr ⟨p, by simp, .inr h⟩
    · exact .inr ⟨q, by simp [hq], h⟩

theorem pairsB_spec {ops : Array Oper} {c : Nat} {oi : Oper} {mi : Mk} (l : List (Oper × Mk)) : ∀ {k : Nat}, pairsB ops c oi mi k l = true → ∀ (j : Nat) (x : Oper × Mk), l[j]? = some x → c.testBit (k + j) = true ∨ apartB ops x.1 oi x.2 mi = true := by
  induction l with
  | nil => intro k _ j x hx; simp at hx
  | cons y l ih =>
    intro k h j x hx
    simp only [pairsB, Bool.and_eq_true, Bool.or_eq_true] at h
    cases j with
    | zero => simp at hx; subst hx; exact h.1
    | succ j =>
      have := ih h.2 j x (by simpa using hx)
      rwa [show k + 1 + j = k + (j + 1) by omega] at this

/-- What the check says of operation i. -/
def PairsOK (ops : Array Oper) (Z : List (Oper × Mk)) (i : Nat) (x : Oper × Mk) : Prop :=
  (∀ p ∈ predsOf x.1, p < i) ∧ ∃ c, ClosOK (Z.map (·.1)) i c ∧ ∀ (j : Nat) (y : Oper × Mk), j < i → Z[j]? = some y → c.testBit j = true ∨ apartB ops y.1 x.1 y.2 x.2 = true

theorem indepGo_spec {ops : Array Oper} (rest : List (Oper × Mk)) : ∀ {done : List (Oper × Mk)} {cl : List Nat}, cl.length = done.length →
    (∀ i c, cl[i]? = some c → ClosOK ((done ++ rest).map (·.1)) i c) → indepGo ops done cl rest = true →
    ∀ (i : Nat) (x : Oper × Mk), done.length ≤ i → (done ++ rest)[i]? = some x → PairsOK ops (done ++ rest) i x := by
  induction rest with
  | nil => intro done cl _ _ _ i x hi hx; rw [List.append_nil] at hx; rw [List.getElem?_eq_none hi] at hx; simp at hx
  | cons y rest ih =>
    intro done cl hlen hcl h i x hi hx
    simp only [indepGo, Bool.and_eq_true, List.all_eq_true, decide_eq_true_eq] at h
    obtain ⟨⟨h1, h2⟩, h3⟩ := h
    have hy : (done ++ y :: rest)[done.length]? = some y := by simp
    have hc : ClosOK ((done ++ y :: rest).map (·.1)) done.length (closAt cl (predsOf y.1)) := by
      intro L o hL ho hp j hj
      rw [List.getElem?_map, hy] at ho
      simp at ho
      subst ho
      rcases closAt_spec (predsOf y.1) hj with h0 | ⟨p, hpm, h0⟩
      · simp at h0
      · rcases h0 with h0 | h0
        · subst h0; exact hp _ hpm
        · have hlt : p < cl.length := h1 p hpm
          have hg : cl[p]? = some (cl.getD p 0) := by simp [List.getD, List.getElem?_eq_getElem hlt]
          have hlt' : p < done.length := by rw [← hlen]; exact hlt
          have ho' : ((done ++ y :: rest).map (·.1))[p]? = some (done[p]'hlt').1 := by
            rw [List.getElem?_map, List.getElem?_append_left hlt', List.getElem?_eq_getElem hlt']; rfl
          exact hcl p _ hg L _ hL ho' (hL p _ ho' (hp p hpm)) j h0
    by_cases he : i = done.length
    · subst he
      rw [hy] at hx
      simp at hx
      subst hx
      refine ⟨fun p hp => by rw [← hlen]; exact h1 p hp, _, hc, fun j z hj hz => ?_⟩
      rw [List.getElem?_append_left hj] at hz
      have := pairsB_spec done h2 j z hz
      simpa using this
    · have e : done ++ y :: rest = (done ++ [y]) ++ rest := by simp
      rw [e] at hx hcl hc ⊢
      refine ih (by simp [hlen]) (fun k c hk => ?_) h3 i x (by simp; omega) hx
      rw [List.getElem?_append] at hk
      split at hk
      · exact hcl k c hk
      · have hk0 : k - cl.length = 0 := by
          have := (List.getElem?_eq_some_iff.1 hk).1
          simp at this; omega
        rw [hk0] at hk
        simp at hk
        subst hk
        rw [show k = done.length by omega]
        exact hc

/-! ### the frame, the heap in the text's order -/
variable {ops : Array Oper} {recs : List Rec} {F0 : Fr} {h0 : Hp}

theorem Run.at (l : List Oper) : ∀ {rs : List Rec} {k : Nat} {F' : Fr} {h' : Hp}, (∀ i, l[i]? = ops.toList[k + i]?) → (∀ i, rs[i]? = recs[k + i]?) →
    Run P ops (FL ops.toList recs F0 (fun _ => true) k) (HL recs h0 (fun _ => true) k) l rs F' h' →
    rs.length = l.length ∧ (∀ (i : Nat) (o : Oper) (r : Rec), l[i]? = some o → rs[i]? = some r → Good P ops (FL ops.toList recs F0 (fun _ => true) (k + i)) (HL recs h0 (fun _ => true) (k + i)) o r) ∧
      F' = FL ops.toList recs F0 (fun _ => true) (k + l.length) ∧ h' = HL recs h0 (fun _ => true) (k + l.length) := by
  induction l with
  | nil => intro rs k F' h' _ _ hr; cases hr; exact ⟨rfl, by simp, rfl, rfl⟩
  | cons o l ih =>
    intro rs k F' h' ho hrs hr
    cases hr with
    | @cons _ _ _ _ _ _ r rs hg hr =>
      have e1 : dstAt ops.toList k = o.dst := by
        have := ho 0
        simp only [List.getElem?_cons_zero, Nat.add_zero] at this
        simp [dstAt, ← this]
      have e2 : recAt recs k = r := by
        have := hrs 0
        simp only [List.getElem?_cons_zero, Nat.add_zero] at this
        simp [recAt, List.getD, ← this]
      have hr' : Run P ops (FL ops.toList recs F0 (fun _ => true) (k + 1)) (HL recs h0 (fun _ => true) (k + 1)) l rs F' h' := by
        simp only [FL, HL, if_true, e1, e2]; exact hr
      obtain ⟨i0, i1, i2, i3⟩ := ih (fun i => by have := ho (i + 1); rw [List.getElem?_cons_succ] at this; rw [this]; congr 1; omega)
        (fun i => by have := hrs (i + 1); rw [List.getElem?_cons_succ] at this; rw [this]; congr 1; omega) hr'
      refine ⟨by simp [i0], fun i o' r' h1 h2 => ?_, by rw [i2]; congr 1; simp; omega, by rw [i3]; congr 1; simp; omega⟩
      cases i with
      | zero => simp at h1 h2; subst h1; subst h2; exact hg
      | succ i =>
        have := i1 i o' r' (by simpa using h1) (by simpa using h2)
        rwa [show k + 1 + i = k + (i + 1) by omega] at this

theorem FL_stop {opsl : List Oper} {i : Nat} : ∀ d, FL opsl recs F0 (fun j => decide (j < i)) (i + d) = FL opsl recs F0 (fun j => decide (j < i)) i
  | 0 => rfl
  | d + 1 => by
    have ih := FL_stop (opsl := opsl) (i := i) d
    show FL opsl recs F0 _ (i + d + 1) = _
    simp only [FL]
    rw [if_neg (by simp), ih]
theorem HL_stop {i : Nat} : ∀ d, HL recs h0 (fun j => decide (j < i)) (i + d) = HL recs h0 (fun j => decide (j < i)) i
  | 0 => rfl
  | d + 1 => by
    have ih := HL_stop (i := i) d
    show HL recs h0 _ (i + d + 1) = _
    simp only [HL]
    rw [if_neg (by simp), ih]

theorem apartB_spec {oj oi : Oper} {mj mi : Mk} (h : apartB ops oj oi mj mi = true) :
    ((∀ d, oj.dst = some d → d ∉ oi.looksAt ops) ∧ (∀ d, oj.dst = some d → oi.dst ≠ some d) ∧ (∀ d, oi.dst = some d → d ∉ oj.looksAt ops)) ∧
    (∀ x ∈ mj.1, x ∉ mi.2) ∧ (∀ x ∈ mi.1, x ∉ mj.2) := by
  simp only [apartB, Bool.and_eq_true, Bool.not_eq_true'] at h
  refine ⟨Oper.apart_spec h.1.1, fun x hx hm => ?_, fun x hx hm => ?_⟩
  · have := h.1.2
    simp only [meetB, List.any_eq_false, List.contains_iff_mem] at this
    exact this x hx hm
  · have := h.2
    simp only [meetB, List.any_eq_false, List.contains_iff_mem] at this
    exact this x hx hm

structure Plan (P : Program) (ops : Array Oper) (recs : List Rec) (F0 : Fr) (h0 : Hp) : Prop where
  len : recs.length = ops.size
  good : ∀ (i : Nat) (o : Oper) (r : Rec), ops[i]? = some o → recs[i]? = some r → Good P ops (FL ops.toList recs F0 (fun _ => true) i) (HL recs h0 (fun _ => true) i) o r
  pairs : ∀ (i : Nat) (o : Oper) (r : Rec), ops[i]? = some o → recs[i]? = some r → PairsOK ops (ops.toList.zip (recs.map markOf)) i (o, markOf r)

section plan
variable (hp : Plan P ops recs F0 h0) {L : Nat → Bool}
include hp

theorem Plan.rcd {i : Nat} {o : Oper} (hi : ops[i]? = some o) : recs[i]? = some (recAt recs i) := by
  have : i < recs.length := by rw [hp.len]; exact (Array.getElem?_eq_some_iff.1 hi).1
  simp [recAt, List.getD, List.getElem?_eq_getElem this]
theorem Plan.map : (ops.toList.zip (recs.map markOf)).map (·.1) = ops.toList := by
  rw [List.map_fst_zip]
  simp [hp.len]
theorem Plan.zip {i : Nat} {o : Oper} (hi : ops[i]? = some o) : (ops.toList.zip (recs.map markOf))[i]? = some (o, markOf (recAt recs i)) := by
  rw [List.getElem?_zip_eq_some]
  exact ⟨by rw [Array.getElem?_toList]; exact hi, by rw [List.getElem?_map, hp.rcd hi]; rfl⟩
/-- Two operations of which the earlier is not carried out and the later is, or is ready, are apart. -/
theorem Plan.apart (hL : Ideal ops.toList L) {i j : Nat} {oi oj : Oper} (hij : j < i) (hi : ops[i]? = some oi) (hj : ops[j]? = some oj) (hpre : ∀ p ∈ predsOf oi, L p = true) (hjL : L j = false) :
    apartB ops oj oi (markOf (recAt recs j)) (markOf (recAt recs i)) = true := by
  obtain ⟨_, c, hc, hpair⟩ := hp.pairs i oi _ hi (hp.rcd hi)
  rw [hp.map] at hc
  rcases hpair j _ hij (hp.zip hj) with h | h
  · have := hc L oi hL (by rw [Array.getElem?_toList]; exact hi) hpre j h
    rw [hjL] at this; simp at this
  · exact h

theorem Plan.slot (hL : Ideal ops.toList L) {i : Nat} {oi : Oper} (hi : ops[i]? = some oi) (hpre : ∀ p ∈ predsOf oi, L p = true) (hiL : L i = false) {t : Nat} (ht : t ∈ oi.looksAt ops) :
    (FL ops.toList recs F0 L ops.size)[t]? = (FL ops.toList recs F0 (fun _ => true) i)[t]? := by
  have hlt : i < ops.size := (Array.getElem?_eq_some_iff.1 hi).1
  have e1 : (FL ops.toList recs F0 (fun j => decide (j < i)) i)[t]? = (FL ops.toList recs F0 (fun _ => true) i)[t]? := FL_same i fun j hj _ => by simp [hj]
  have e2 : FL ops.toList recs F0 (fun j => decide (j < i)) ops.size = FL ops.toList recs F0 (fun j => decide (j < i)) i := by
    have := FL_stop (opsl := ops.toList) (recs := recs) (F0 := F0) (i := i) (ops.size - i)
    rwa [show i + (ops.size - i) = ops.size by omega] at this
  rw [← e1, ← e2]
  refine FL_same ops.size fun j hj hd => ?_
  have hoj : ops[j]? = some ops[j] := Array.getElem?_eq_getElem hj
  have hdj : ops[j].dst = some t := by
    simp only [dstAt, Array.getElem?_toList, hoj] at hd; exact hd
  rcases Nat.lt_trichotomy j i with h | h | h
  · simp only [h, decide_true]
    cases hc : L j with
    | true => rfl
    | false => exact absurd ht ((apartB_spec (hp.apart hL h hi hoj hpre hc)).1.1 t hdj)
  · subst h; rw [hiL]; simp
  · simp only [show ¬ j < i by omega, decide_false]
    cases hc : L j with
    | false => rfl
    | true => exact absurd ht ((apartB_spec (hp.apart hL h hoj hi (hL j _ (by rw [Array.getElem?_toList]; exact hoj) hc) hiL)).1.2.2 t hdj)

theorem Plan.cell (hL : Ideal ops.toList L) {i : Nat} {oi : Oper} (hi : ops[i]? = some oi) (hpre : ∀ p ∈ predsOf oi, L p = true) (hiL : L i = false) {t : Nat} (ht : t ∈ (recAt recs i).rds) :
    (HL recs h0 L ops.size)[t]? = (HL recs h0 (fun _ => true) i)[t]? := by
  have hlt : i < ops.size := (Array.getElem?_eq_some_iff.1 hi).1
  have e1 : (HL recs h0 (fun j => decide (j < i)) i)[t]? = (HL recs h0 (fun _ => true) i)[t]? := HL_same i fun j hj _ => by simp [hj]
  have e2 : HL recs h0 (fun j => decide (j < i)) ops.size = HL recs h0 (fun j => decide (j < i)) i := by
    have := HL_stop (recs := recs) (h0 := h0) (i := i) (ops.size - i)
    rwa [show i + (ops.size - i) = ops.size by omega] at this
  rw [← e1, ← e2]
  refine HL_same ops.size fun j hj ⟨p, hpm, hpt⟩ => ?_
  have hoj : ops[j]? = some ops[j] := Array.getElem?_eq_getElem hj
  have hmem : t ∈ (markOf (recAt recs j)).1 := List.mem_map.2 ⟨p, hpm, hpt⟩
  rcases Nat.lt_trichotomy j i with h | h | h
  · simp only [h, decide_true]
    cases hc : L j with
    | true => rfl
    | false => exact absurd ht ((apartB_spec (hp.apart hL h hi hoj hpre hc)).2.1 t hmem)
  · subst h; rw [hiL]; simp
  · simp only [show ¬ j < i by omega, decide_false]
    cases hc : L j with
    | false => rfl
    | true => exact absurd ht ((apartB_spec (hp.apart hL h hoj hi (hL j _ (by rw [Array.getElem?_toList]; exact hoj) hc) hiL)).2.2 t hmem)

theorem Plan.addF (hL : Ideal ops.toList L) {i : Nat} {oi : Oper} (hi : ops[i]? = some oi) (hiL : L i = false) :
    FL ops.toList recs F0 (add L i) ops.size = setD (FL ops.toList recs F0 L ops.size) oi.dst (recAt recs i).s := by
  have hlt : i < ops.size := (Array.getElem?_eq_some_iff.1 hi).1
  have e : dstAt ops.toList i = oi.dst := by simp [dstAt, hi]
  have := FL_add (ops := ops.toList) (recs := recs) (F0 := F0) hiL ops.size fun j hij hj hjL d hd => by
    have hoj : ops[j]? = some ops[j] := Array.getElem?_eq_getElem hj
    have := (apartB_spec (hp.apart hL hij hoj hi (hL j _ (by rw [Array.getElem?_toList]; exact hoj) hjL) hiL)).1.2.1 d (by rw [← e]; exact hd)
    simp only [dstAt, Array.getElem?_toList, hoj]; exact this
  rw [this, if_pos hlt, e]
theorem Plan.addH (hL : Ideal ops.toList L) {i : Nat} {oi : Oper} (hi : ops[i]? = some oi) (hiL : L i = false) :
    HL recs h0 (add L i) ops.size = upd (recAt recs i).ws (HL recs h0 L ops.size) := by
  have hlt : i < ops.size := (Array.getElem?_eq_some_iff.1 hi).1
  have := HL_add (recs := recs) (h0 := h0) hiL ops.size fun j hij hj hjL p hpm q hqm he => by
    have hoj : ops[j]? = some ops[j] := Array.getElem?_eq_getElem hj
    have h1 := (apartB_spec (hp.apart hL hij hoj hi (hL j _ (by rw [Array.getElem?_toList]; exact hoj) hjL) hiL)).2.1 p.1 (List.mem_map.2 ⟨p, hpm, rfl⟩)
    refine h1 ?_
    rw [he]
    exact (hp.good j _ _ hoj (hp.rcd hoj)).sub q hqm
  rw [this, if_pos hlt]
end plan
end
end Go.Sx

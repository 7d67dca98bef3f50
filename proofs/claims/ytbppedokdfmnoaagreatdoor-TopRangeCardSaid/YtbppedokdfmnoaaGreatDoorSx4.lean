/- Part of the executor and its soundness, or of what it is told of this seat's program. No statement of the seat is proved here. -/
import Derived.Test.YtbppedokdfmnoaaGreatDoorSx3
import Derived.LoopN
import Derived.ProofKit
import Derived.OpenShut
import Derived.ChangeOld
set_option linter.unusedSimpArgs false
set_option linter.unusedVariables false
namespace Go.Sx
section
noncomputable def tbB (mk i : Nat) : Bool := Nat.beq (Nat.land 1 (Nat.shiftRight mk i)) 1
theorem tbB_eq (mk i : Nat) : tbB mk i = Nat.testBit mk i := by
 unfold tbB Nat.testBit
 show Nat.beq (1 &&& (mk >>> i)) 1 = ((1 &&& (mk >>> i)) != 0)
 rw [Nat.one_and_eq_mod_two]
 rcases Nat.mod_two_eq_zero_or_one (mk >>> i) with h | h <;> rw [h] <;> rfl
noncomputable def orBit (mk b : Nat) : Nat := Nat.lor mk (Nat.shiftLeft 1 b)
theorem orBit_test {mk b i : Nat} : (orBit mk b).testBit i = true ↔ mk.testBit i = true ∨ i = b := by
 show (mk ||| 1 <<< b).testBit i = true ↔ _
 rw [Nat.testBit_or, Nat.shiftLeft_eq, Nat.one_mul, Nat.testBit_two_pow]
 simp only [Bool.or_eq_true, decide_eq_true_eq]
 constructor <;> rintro (h | h) <;> first | exact .inl h | exact .inr h.symm
noncomputable def bitsL (l : List Nat) : Nat := List.rec (motive := fun _ => Nat) 0 (fun b _ ih => orBit ih b) l
theorem bitsL_test (l : List Nat) : ∀ i, (bitsL l).testBit i = true ↔ i ∈ l := by
 induction l with
 | nil => intro i; simp [bitsL]
 | cons b l ih =>
  intro i
  show (orBit (bitsL l) b).testBit i = true ↔ _
  rw [orBit_test, ih, List.mem_cons]
  constructor <;> rintro (h | h) <;> first | exact .inl h | exact .inr h
theorem land_zero {a b : Nat} (h : Nat.beq (Nat.land a b) 0 = true) (i : Nat) (ha : a.testBit i = true) (hb : b.testBit i = true) : False := by
 have h := Nat.eq_of_beq_eq_true h
 have : (a &&& b).testBit i = true := by rw [Nat.testBit_and, ha, hb]; rfl
 rw [show a &&& b = 0 from h] at this
 simp at this
noncomputable def tmpsL (l : List Operand) (m : Nat) : Nat := List.rec (motive := fun _ => Nat) m (fun x _ ih => match x with | .tmp t => orBit ih t | _ => ih) l
theorem tmpsL_test (l : List Operand) {m : Nat} : ∀ i, (tmpsL l m).testBit i = true ↔ m.testBit i = true ∨ .tmp i ∈ l := by
 induction l with
 | nil => intro i; simp [tmpsL]
 | cons x l ih =>
  intro i
  cases x with
  | tmp t =>
   show (orBit (tmpsL l m) t).testBit i = true ↔ _
   rw [orBit_test, ih]
   simp only [List.mem_cons, Operand.tmp.injEq]
   constructor
   ·rintro ((h | h) | h)
    ·exact .inl h
    ·exact .inr (.inr h)
    ·exact .inr (.inl h)
   ·rintro (h | h | h)
    ·exact .inl (.inl h)
    ·exact .inr h
    ·exact .inl (.inr h)
  | _ => show (tmpsL l m).testBit i = true ↔ _; rw [ih]; simp
def opndL (op : Op) : List Operand :=
 match op with
 | .move x => [x] | .assign x => [x] | .box _ x => [x] | .load _ x => [x] | .nilCheck x => [x] | .unOp _ _ x => [x] | .convert _ _ x => [x]
 | .makeInterface _ x => [x] | .fieldAddr _ x _ => [x] | .field _ x _ => [x] | .range _ x => [x] | .next x _ => [x] | .typeAssert x _ _ _ => [x] | .extract x _ => [x]
 | .pick c a b => [c, a, b]
 | .store _ a v => [a, v] | .binOp _ _ a v _ => [a, v] | .makeSlice _ a v => [a, v] | .indexAddr _ a v => [a, v] | .index _ a v => [a, v] | .lookup _ a v _ => [a, v] | .mapEntry _ a v => [a, v]
 | .mapUpdate _ m k v => [m, k, v] | .entryStore _ m k v => [m, k, v]
 | .alloc _ => []
 | .call ⟨.value f, xs, _⟩ => f :: xs.toList
 | .call ⟨.invoke f _, xs, _⟩ => f :: xs.toList
 | .call ⟨.builtin _, xs, _⟩ => xs.toList
 | op => op.operands.toList
theorem opndL_eq (op : Op) : op.operands.toList = opndL op := by
 cases op with
 | call c =>
  obtain ⟨callee, xs, ats⟩ := c
  cases callee <;> simp [Op.operands, Call.operands, opndL]
 | _ => first | rfl | simp [Op.operands, opndL]
noncomputable def guardM (all : List Oper) (g : Option (Nat × Bool)) (m : Nat) : Nat :=
 match g with
 | none => m
 | some (j, _) => match dstD all j with
  | none => m
  | some d => orBit m d
noncomputable def looksM (all : List Oper) (o : Oper) : Nat := guardM all o.guard (tmpsL (opndL o.op) 0)
theorem looksM_of {ops : Array Oper} {o : Oper} {t : Nat} (h : t ∈ o.looksAt ops) : (looksM ops.toList o).testBit t = true := by
 unfold Oper.looksAt at h
 unfold looksM
 rw [List.mem_append] at h
 have h1 : (∃ x ∈ o.op.operands.toList, x = Operand.tmp t) -> (tmpsL (opndL o.op) 0).testBit t = true := by
  rintro ⟨x, hx, rfl⟩
  rw [opndL_eq] at hx
  exact (tmpsL_test _ t).2 (.inr hx)
 cases hg : o.guard with
 | none =>
  rw [hg] at h
  rcases h with h | h
  ·obtain ⟨x, hx, hxt⟩ := List.mem_filterMap.1 h
   refine h1 ⟨x, hx, ?_⟩
   cases x <;> simp at hxt
   rw [hxt]
  ·simp at h
 | some p =>
  obtain ⟨j, b⟩ := p
  rw [hg] at h
  simp only [guardM, dstD_eq, dstOf, Array.getElem?_toList]
  rcases h with h | h
  ·obtain ⟨x, hx, hxt⟩ := List.mem_filterMap.1 h
   have : (tmpsL (opndL o.op) 0).testBit t = true := h1 ⟨x, hx, by cases x <;> simp at hxt; rw [hxt]⟩
   cases (ops[j]?).bind (·.dst) with
   | none => exact this
   | some d => exact orBit_test.2 (.inl this)
  ·simp only [Option.mem_toList] at h
   have h : (ops[j]?).bind (·.dst) = some t := h
   rw [h]
   exact orBit_test.2 (.inr rfl)
def dstM (o : Oper) : Nat := match o.dst with | none => 0 | some d => Nat.shiftLeft 1 d
theorem dstM_test {o : Oper} {d i : Nat} (h : o.dst = some d) : (dstM o).testBit i = true ↔ i = d := by
 unfold dstM
 rw [h]
 show (1 <<< d).testBit i = true ↔ _
 rw [Nat.shiftLeft_eq, Nat.one_mul, Nat.testBit_two_pow]
 simp only [decide_eq_true_eq]
 exact ⟨fun h => h.symm, fun h => h.symm⟩
noncomputable def closL (cl : List Nat) (l : List Edge) : Nat -> (Nat -> Option (List Nat)) -> Option (List Nat) :=
 List.rec (motive := fun _ => Nat -> (Nat -> Option (List Nat)) -> Option (List Nat)) (fun c k => k c)
  (fun e _ ih c k => match e.ground with
   | .textOnly _ => ih c k
   | .gcOnly _ => ih c k
   | _ => thenD (lkD cl e.on) fun a => Nat.rec (motive := fun _ => Option (List Nat)) (ih 0 k) (fun x _ => ih (Nat.succ x) k) (orBit (Nat.lor c a) e.on)) l
theorem closL_spec {cl : List Nat} (l : List Edge) : ∀ {c : Nat} {k : Nat -> Option (List Nat)} {r : List Nat}, closL cl l c k = some r -> ∃ c', k c' = some r /\ (∀ e ∈ l, Region.binds .any e = true -> e.on < cl.length) /\
  ∀ j, c'.testBit j = true -> c.testBit j = true ∨ ∃ e ∈ l, Region.binds .any e = true /\ (e.on = j ∨ ∃ a, cl[e.on]? = some a /\ a.testBit j = true) := by
 induction l with
 | nil => intro c k r h; exact ⟨c, h, by simp, fun j hj => .inl hj⟩
 | cons e l ih =>
  intro c k r h
  have skip : Region.binds .any e = false -> closL cl l c k = some r -> ∃ c', k c' = some r /\ (∀ e' ∈ e :: l, Region.binds .any e' = true -> e'.on < cl.length) /\
    ∀ j, c'.testBit j = true -> c.testBit j = true ∨ ∃ e' ∈ e :: l, Region.binds .any e' = true /\ (e'.on = j ∨ ∃ a, cl[e'.on]? = some a /\ a.testBit j = true) := fun hb h => by
   obtain ⟨c', hk, h1, h2⟩ := ih h
   refine ⟨c', hk, fun e' he' hb' => ?_, fun j hj => (h2 j hj).imp id fun ⟨e', he', r⟩ => ⟨e', List.mem_cons_of_mem _ he', r⟩⟩
   rcases List.mem_cons.1 he' with rfl | he'
   ·rw [hb] at hb'; simp at hb'
   ·exact h1 e' he' hb'
  have take : Region.binds .any e = true -> (thenD (lkD cl e.on) fun a => Nat.rec (motive := fun _ => Option (List Nat)) (closL cl l 0 k) (fun x _ => closL cl l (Nat.succ x) k) (orBit (Nat.lor c a) e.on)) = some r -> ∃ c', k c' = some r /\ (∀ e' ∈ e :: l, Region.binds .any e' = true -> e'.on < cl.length) /\
    ∀ j, c'.testBit j = true -> c.testBit j = true ∨ ∃ e' ∈ e :: l, Region.binds .any e' = true /\ (e'.on = j ∨ ∃ a, cl[e'.on]? = some a /\ a.testBit j = true) := fun hb h => by
   obtain ⟨a, ha, h⟩ := thenD_eq h
   rw [lkD_eq] at ha
   have h : closL cl l (orBit (Nat.lor c a) e.on) k = some r := by
    revert h
    cases orBit (Nat.lor c a) e.on <;> exact fun h => h
   obtain ⟨c', hk, h1, h2⟩ := ih h
   refine ⟨c', hk, fun e' he' hb' => ?_, fun j hj => ?_⟩
   ·rcases List.mem_cons.1 he' with rfl | he'
    ·exact (List.getElem?_eq_some_iff.1 ha).1
    ·exact h1 e' he' hb'
   ·rcases h2 j hj with h2 | ⟨e', he', r⟩
    ·rcases orBit_test.1 h2 with h3 | h3
     ·have h3 : (c ||| a).testBit j = true := h3
      rw [Nat.testBit_or, Bool.or_eq_true] at h3
      rcases h3 with h3 | h3
      ·exact .inl h3
      ·exact .inr ⟨e, by simp, hb, .inr ⟨a, ha, h3⟩⟩
     ·exact .inr ⟨e, by simp, hb, .inl h3.symm⟩
    ·exact .inr ⟨e', List.mem_cons_of_mem _ he', r⟩
  obtain ⟨on, ground⟩ := e
  cases ground with
  | textOnly _ => exact skip rfl h
  | gcOnly _ => exact skip rfl h
  | _ => exact take rfl h
noncomputable def pairL (c D L : Nat) (done : List (Nat × Nat)) : Nat -> Bool :=
 List.rec (motive := fun _ => Nat -> Bool) (fun _ => true)
  (fun x _ ih j => Bool.rec (motive := fun _ => Bool)
   (Bool.rec (motive := fun _ => Bool) false (Bool.rec (motive := fun _ => Bool) false (ih (Nat.succ j)) (Nat.beq (Nat.land D x.2) 0)) (Nat.beq (Nat.land (Nat.lor L D) x.1) 0))
   (ih (Nat.succ j)) (tbB c j)) done
theorem pairL_spec {c D L : Nat} (done : List (Nat × Nat)) : ∀ {k : Nat}, pairL c D L done k = true -> ∀ (j : Nat) (x : Nat × Nat), done[j]? = some x ->
  c.testBit (k + j) = true ∨ (Nat.beq (Nat.land (Nat.lor L D) x.1) 0 = true /\ Nat.beq (Nat.land D x.2) 0 = true) := by
 induction done with
 | nil => intro k _ j x hx; simp at hx
 | cons y done ih =>
  intro k h j x hx
  have h : Bool.rec (motive := fun _ => Bool)
   (Bool.rec (motive := fun _ => Bool) false (Bool.rec (motive := fun _ => Bool) false (pairL c D L done (Nat.succ k)) (Nat.beq (Nat.land D y.2) 0)) (Nat.beq (Nat.land (Nat.lor L D) y.1) 0))
   (pairL c D L done (Nat.succ k)) (tbB c k) = true := h
  have rest : pairL c D L done (Nat.succ k) = true -> (c.testBit k = true ∨ (Nat.beq (Nat.land (Nat.lor L D) y.1) 0 = true /\ Nat.beq (Nat.land D y.2) 0 = true)) ->
    c.testBit (k + j) = true ∨ (Nat.beq (Nat.land (Nat.lor L D) x.1) 0 = true /\ Nat.beq (Nat.land D x.2) 0 = true) := fun h1 h2 => by
   cases j with
   | zero => simp at hx; subst hx; exact h2
   | succ j =>
    have := ih h1 j x (by simpa using hx)
    rwa [show Nat.succ k + j = k + (j + 1) by omega] at this
  cases hb : tbB c k with
  | true =>
   rw [hb] at h
   exact rest h (.inl (by rw [<- tbB_eq]; exact hb))
  | false =>
   rw [hb] at h
   cases h1 : Nat.beq (Nat.land (Nat.lor L D) y.1) 0 with
   | false => rw [h1] at h; simp at h
   | true =>
    rw [h1] at h
    cases h2 : Nat.beq (Nat.land D y.2) 0 with
    | false => rw [h2] at h; simp at h
    | true => rw [h2] at h; exact rest h (.inr ⟨h1, h2⟩)
noncomputable def natO (n : Nat) (k : Nat -> Option (List Nat)) : Option (List Nat) := Nat.rec (motive := fun _ => Option (List Nat)) (k 0) (fun m _ => k (Nat.succ m)) n
theorem natO_eq (n : Nat) (k : Nat -> Option (List Nat)) : natO n k = k n := by cases n <;> rfl
noncomputable def planG (all : List Oper) (rest : List Oper) : List (Nat × Nat) -> List Nat -> Option (List Nat) :=
 List.rec (motive := fun _ => List (Nat × Nat) -> List Nat -> Option (List Nat)) (fun _ cl => some cl)
  (fun o _ ih done cl => closL cl o.after.toList 0 fun c => natO (looksM all o) fun L => natO (dstM o) fun D =>
   Bool.rec (motive := fun _ => Option (List Nat)) none (ih (done ++ [(D, L)]) (cl ++ [c])) (pairL c D L done 0)) rest
noncomputable def planD (ops : Array Oper) : Option (List Nat) := planG ops.toList ops.toList [] []
def PlanAt (ops : Array Oper) (i c : Nat) : Prop :=
 ∀ o, ops.toList[i]? = some o -> (∀ p ∈ predsOf o, p < i) /\ ClosOK ops.toList i c /\ ∀ (j : Nat) (oj : Oper), j < i -> ops.toList[j]? = some oj -> c.testBit j = true ∨ oj.apart ops o = true
theorem apart_of {ops : Array Oper} {oj o : Oper} (h1 : Nat.beq (Nat.land (Nat.lor (looksM ops.toList o) (dstM o)) (dstM oj)) 0 = true) (h2 : Nat.beq (Nat.land (dstM o) (looksM ops.toList oj)) 0 = true) : oj.apart ops o = true := by
 unfold Oper.apart
 rw [Bool.and_eq_true]
 constructor
 ·cases hd : oj.dst with
  | none => rfl
  | some d =>
   have hdd : (dstM oj).testBit d = true := (dstM_test hd).2 rfl
   simp only [Bool.and_eq_true, Bool.not_eq_true', bne_iff_ne, ne_eq]
   constructor
   ·cases hc : (o.looksAt ops).contains d with
    | false => rfl
    | true =>
     have := looksM_of (List.contains_iff_mem.1 hc)
     exact (land_zero h1 d (by show (looksM ops.toList o ||| dstM o).testBit d = true; rw [Nat.testBit_or, this]; rfl) hdd).elim
   ·intro hc
    have := (dstM_test hc).2 (rfl : d = d)
    exact land_zero h1 d (by show (looksM ops.toList o ||| dstM o).testBit d = true; rw [Nat.testBit_or, this, Bool.or_true]) hdd
 ·cases hd : o.dst with
  | none => rfl
  | some d =>
   simp only [Bool.not_eq_true']
   cases hc : (oj.looksAt ops).contains d with
   | false => rfl
   | true => exact (land_zero h2 d ((dstM_test hd).2 rfl) (looksM_of (List.contains_iff_mem.1 hc))).elim
theorem mem_predsOf {o : Oper} {p : Nat} : p ∈ predsOf o ↔ ∃ e ∈ o.after.toList, Region.binds .any e = true /\ e.on = p := by
 unfold predsOf
 rw [List.mem_filterMap]
 constructor
 ·rintro ⟨e, he, h⟩
  cases hb : Region.binds .any e
  ·simp [hb] at h
  ·simp [hb] at h; exact ⟨e, he, hb, h⟩
 ·rintro ⟨e, he, hb, h⟩
  exact ⟨e, he, by simp [hb, h]⟩
theorem planG_spec {ops : Array Oper} (rest : List Oper) : ∀ {pre : List Oper} {done : List (Nat × Nat)} {cl r : List Nat}, ops.toList = pre ++ rest -> done = pre.map (fun o => (dstM o, looksM ops.toList o)) -> cl.length = pre.length ->
  (∀ i c, cl[i]? = some c -> PlanAt ops i c) -> planG ops.toList rest done cl = some r -> r.length = ops.toList.length /\ ∀ i c, r[i]? = some c -> PlanAt ops i c := by
 induction rest with
 | nil =>
  intro pre done cl r he hd hl hcl h
  have h : some cl = some r := h
  simp at h
  subst h
  exact ⟨by rw [hl, he]; simp, hcl⟩
 | cons o rest ih =>
  intro pre done cl r he hd hl hcl h
  obtain ⟨c, h, hp, hc⟩ := closL_spec o.after.toList (show closL cl o.after.toList 0 _ = some r from h)
  rw [natO_eq, natO_eq] at h
  cases hb : pairL c (dstM o) (looksM ops.toList o) done 0 with
  | false => rw [hb] at h; simp at h
  | true =>
   rw [hb] at h
   have hpair := pairL_spec done hb
   have hat : ops.toList[pre.length]? = some o := by rw [he]; simp
   refine ih (pre := pre ++ [o]) (by rw [he]; simp) (by rw [hd]; simp) (by simp [hl]) (fun i c' hi => ?_) h
   rw [List.getElem?_append] at hi
   split at hi
   ·exact hcl i c' hi
   ·rename_i hge
    have hi0 : i - cl.length = 0 := by have := (List.getElem?_eq_some_iff.1 hi).1; simp at this; omega
    rw [hi0] at hi
    simp at hi
    subst hi
    have hie : i = pre.length := by omega
    subst hie
    intro o' ho'
    rw [hat] at ho'
    simp at ho'
    subst ho'
    refine ⟨fun p hp' => ?_, fun L o' hL ho'' hpre j hj => ?_, fun j oj hj hoj => ?_⟩
    ·obtain ⟨e, he', hb', hep⟩ := mem_predsOf.1 hp'
     have := hp e he' hb'
     omega
    ·rw [hat] at ho''
     simp at ho''
     subst ho''
     rcases hc j hj with h0 | ⟨e, he', hb', h1 | ⟨a, ha, h1⟩⟩
     ·simp at h0
     ·rw [<- h1]
      exact hpre _ (mem_predsOf.2 ⟨e, he', hb', rfl⟩)
     ·have hLp := hpre _ (mem_predsOf.2 ⟨e, he', hb', rfl⟩)
      have hlt : e.on < pre.length := by have := (List.getElem?_eq_some_iff.1 ha).1; omega
      have hoe : ops.toList[e.on]? = some pre[e.on] := by rw [he, List.getElem?_append_left hlt]; exact List.getElem?_eq_getElem hlt
      have := (hcl e.on a ha _ hoe).2.1
      exact this L _ hL hoe (hL e.on _ hoe hLp) j h1
    ·have hdj : done[j]? = some (dstM oj, looksM ops.toList oj) := by
      rw [hd, List.getElem?_map]
      rw [he, List.getElem?_append_left hj] at hoj
      rw [hoj]; rfl
     rcases hpair j _ hdj with h1 | ⟨h1, h2⟩
     ·rw [Nat.zero_add] at h1; exact .inl h1
     ·exact .inr (apart_of h1 h2)
noncomputable def apartsB (c W R : Nat) (prev : List (Nat × Nat × Nat)) : Bool :=
 List.rec (motive := fun _ => Bool) true (fun x _ ih => Bool.rec (motive := fun _ => Bool)
  (Bool.rec (motive := fun _ => Bool) false (Bool.rec (motive := fun _ => Bool) false ih (Nat.beq (Nat.land W x.2.2) 0)) (Nat.beq (Nat.land x.2.1 R) 0)) ih (tbB c x.1)) prev
theorem apartsB_spec {c W R : Nat} (prev : List (Nat × Nat × Nat)) (h : apartsB c W R prev = true) : ∀ x ∈ prev, c.testBit x.1 = true ∨ (Nat.beq (Nat.land x.2.1 R) 0 = true /\ Nat.beq (Nat.land W x.2.2) 0 = true) := by
 induction prev with
 | nil => intro x hx; simp at hx
 | cons y prev ih =>
  intro x hx
  have h : Bool.rec (motive := fun _ => Bool)
   (Bool.rec (motive := fun _ => Bool) false (Bool.rec (motive := fun _ => Bool) false (apartsB c W R prev) (Nat.beq (Nat.land W y.2.2) 0)) (Nat.beq (Nat.land y.2.1 R) 0)) (apartsB c W R prev) (tbB c y.1) = true := h
  have rest : apartsB c W R prev = true -> (c.testBit y.1 = true ∨ (Nat.beq (Nat.land y.2.1 R) 0 = true /\ Nat.beq (Nat.land W y.2.2) 0 = true)) -> c.testBit x.1 = true ∨ (Nat.beq (Nat.land x.2.1 R) 0 = true /\ Nat.beq (Nat.land W x.2.2) 0 = true) := fun h1 h2 => by
   rcases List.mem_cons.1 hx with rfl | hx
   ·exact h2
   ·exact ih h1 x hx
  cases hb : tbB c y.1 with
  | true => rw [hb] at h; exact rest h (.inl (by rw [<- tbB_eq]; exact hb))
  | false =>
   rw [hb] at h
   cases h1 : Nat.beq (Nat.land y.2.1 R) 0 with
   | false => rw [h1] at h; simp at h
   | true =>
    rw [h1] at h
    cases h2 : Nat.beq (Nat.land W y.2.2) 0 with
    | false => rw [h2] at h; simp at h
    | true => rw [h2] at h; exact rest h (.inr ⟨h1, h2⟩)
noncomputable def touchK (rs : List Rec) : List Nat -> Nat -> List (Nat × Nat × Nat) -> Prop -> Prop :=
 List.rec (motive := fun _ => List Nat -> Nat -> List (Nat × Nat × Nat) -> Prop -> Prop) (fun _ _ _ k => k)
  (fun r _ ih cs i prev k => List.rec (motive := fun _ => Prop) False (fun c cs' _ =>
   natF (bitsL (r.ws.map (·.1))) fun W => natF (bitsL r.rds) fun R =>
    bFork (Nat.beq (Nat.lor W R) 0) (ih cs' (Nat.succ i) prev k) (bChk (apartsB c W R prev) (ih cs' (Nat.succ i) ((i, W, R) :: prev) k))) cs) rs
theorem lor_zero {a b : Nat} (h : Nat.beq (Nat.lor a b) 0 = true) (i : Nat) : a.testBit i = false /\ b.testBit i = false := by
 have h := Nat.eq_of_beq_eq_true h
 have : (a ||| b).testBit i = false := by rw [show a ||| b = 0 from h]; simp
 rw [Nat.testBit_or, Bool.or_eq_false_iff] at this
 exact this
theorem touchK_spec (rs : List Rec) : ∀ {cs : List Nat} {i : Nat} {prev : List (Nat × Nat × Nat)} {k : Prop} (seen : List Rec), seen.length = i ->
  (∀ (j : Nat) (r : Rec), seen[j]? = some r -> (∀ b, b ∉ r.ws.map (·.1) /\ b ∉ r.rds) ∨ (j, bitsL (r.ws.map (·.1)), bitsL r.rds) ∈ prev) -> touchK rs cs i prev k ->
  k /\ rs.length <= cs.length /\ ∀ (a j : Nat) (r rj : Rec) (c : Nat), rs[a]? = some r -> cs[a]? = some c -> j < i + a -> (seen ++ rs)[j]? = some rj ->
   c.testBit j = true ∨ ((∀ b ∈ rj.ws.map (·.1), b ∉ r.rds) /\ ∀ b ∈ r.ws.map (·.1), b ∉ rj.rds) := by
 induction rs with
 | nil => intro cs i prev k seen _ _ hk; exact ⟨hk, Nat.zero_le _, by simp⟩
 | cons r rs ih =>
  intro cs i prev k seen hl hs hk
  cases cs with
  | nil => exact (show False from hk).elim
  | cons c cs =>
   have hk : natF (bitsL (r.ws.map (·.1))) fun W => natF (bitsL r.rds) fun R =>
    bFork (Nat.beq (Nat.lor W R) 0) (touchK rs cs (Nat.succ i) prev k) (bChk (apartsB c W R prev) (touchK rs cs (Nat.succ i) ((i, W, R) :: prev) k)) := hk
   have hk := natF_sound (k := fun W => natF (bitsL r.rds) fun R =>
    bFork (Nat.beq (Nat.lor W R) 0) (touchK rs cs (Nat.succ i) prev k) (bChk (apartsB c W R prev) (touchK rs cs (Nat.succ i) ((i, W, R) :: prev) k))) hk
   have hk := natF_sound (k := fun R => bFork (Nat.beq (Nat.lor (bitsL (r.ws.map (·.1))) R) 0) (touchK rs cs (Nat.succ i) prev k) (bChk (apartsB c (bitsL (r.ws.map (·.1))) R prev) (touchK rs cs (Nat.succ i) ((i, bitsL (r.ws.map (·.1)), R) :: prev) k))) hk
   have fin : ∀ {prev' : List (Nat × Nat × Nat)}, (∀ x ∈ prev, x ∈ prev') -> ((∀ b, b ∉ r.ws.map (·.1) /\ b ∉ r.rds) ∨ (i, bitsL (r.ws.map (·.1)), bitsL r.rds) ∈ prev') ->
     ((∀ b, b ∉ r.ws.map (·.1) /\ b ∉ r.rds) ∨ apartsB c (bitsL (r.ws.map (·.1))) (bitsL r.rds) prev = true) -> touchK rs cs (Nat.succ i) prev' k ->
     k /\ (r :: rs).length <= (c :: cs).length /\ ∀ (a j : Nat) (r' rj : Rec) (c' : Nat), (r :: rs)[a]? = some r' -> (c :: cs)[a]? = some c' -> j < i + a -> (seen ++ r :: rs)[j]? = some rj ->
      c'.testBit j = true ∨ ((∀ b ∈ rj.ws.map (·.1), b ∉ r'.rds) /\ ∀ b ∈ r'.ws.map (·.1), b ∉ rj.rds) := fun {prev'} hsub hr hap hk => by
    obtain ⟨h1, h2, h3⟩ := ih (seen ++ [r]) (by simp [hl]) (fun j rj hj => by
     rw [List.getElem?_append] at hj
     split at hj
     ·exact (hs j rj hj).imp id (hsub _)
     ·rename_i hge
      have hj0 : j - seen.length = 0 := by have := (List.getElem?_eq_some_iff.1 hj).1; simp at this; omega
      rw [hj0] at hj
      simp at hj
      subst hj
      have : j = i := by omega
      subst this
      exact hr) hk
    refine ⟨h1, by simp; omega, fun a j r' rj c' ha hc hj hrj => ?_⟩
    cases a with
    | zero =>
     simp at ha hc
     subst ha; subst hc
     have hj' : j < seen.length := by omega
     rw [List.getElem?_append_left hj'] at hrj
     rcases hs j rj hrj with he | hm
     ·exact .inr ⟨fun b hb => absurd hb (he b).1, fun b _ => (he b).2⟩
     ·rcases hap with he | hap
      ·exact .inr ⟨fun b _ => (he b).2, fun b hb => absurd hb (he b).1⟩
      ·rcases apartsB_spec prev hap _ hm with h | ⟨h, h'⟩
       ·exact .inl h
       ·exact .inr ⟨fun b hb hb' => land_zero h b ((bitsL_test _ b).2 hb) ((bitsL_test _ b).2 hb'), fun b hb hb' => land_zero h' b ((bitsL_test _ b).2 hb) ((bitsL_test _ b).2 hb')⟩
    | succ a => exact h3 a j r' rj c' (by simpa using ha) (by simpa using hc) (by omega) (by rw [List.append_assoc]; exact hrj)
   rcases bFork_sound hk with ⟨hz, hk⟩ | ⟨_, hk⟩
   ·have he : ∀ b, b ∉ r.ws.map (·.1) /\ b ∉ r.rds := fun b => by
     obtain ⟨h1, h2⟩ := lor_zero hz b
     constructor
     ·intro h; rw [(bitsL_test _ b).2 h] at h1; simp at h1
     ·intro h; rw [(bitsL_test _ b).2 h] at h2; simp at h2
    exact fin (fun _ h => h) (.inl he) (.inl he) hk
   ·obtain ⟨hap, hk⟩ := bChk_sound hk
    exact fin (fun x hx => List.mem_cons_of_mem _ hx) (.inr (by simp)) (.inr hap) hk
end
end Go.Sx

namespace Go.Sx
section
def Chg (h0 h : Hp) (wr : List Nat) : Prop := ∀ i, i < h0.length -> i ∉ wr -> h[i]? = h0[i]?
theorem Chg.refl (h : Hp) (wr : List Nat) : Chg h h wr := fun _ _ _ => rfl
noncomputable def memB (b : Nat) (l : List Nat) : Bool := List.rec (motive := fun _ => Bool) false (fun x _ ih => Bool.rec (motive := fun _ => Bool) ih true (Nat.beq x b)) l
noncomputable def insB (m b : Nat) (l : List Nat) : List Nat := Bool.rec (motive := fun _ => List Nat) (Bool.rec (motive := fun _ => List Nat) (b :: l) l (memB b l)) l (Nat.ble m b)
theorem memB_spec {b : Nat} (l : List Nat) (h : memB b l = true) : b ∈ l := by
 induction l with
 | nil => simp [memB] at h
 | cons x l ih =>
  cases hb : Nat.beq x b with
  | true => rw [Nat.eq_of_beq_eq_true hb]; simp
  | false =>
   have : memB b (x :: l) = memB b l := by
    show Bool.rec (motive := fun _ => Bool) (memB b l) true (Nat.beq x b) = _
    rw [hb]
   rw [this] at h
   simp [ih h]
theorem insB_spec {m b : Nat} {l : List Nat} : (∀ i, i ∈ l -> i ∈ insB m b l) /\ (b < m -> b ∈ insB m b l) := by
 unfold insB
 cases hm : Nat.ble m b with
 | true =>
  refine ⟨fun i h => h, fun h => ?_⟩
  have := Nat.le_of_ble_eq_true hm
  omega
 | false =>
  cases hb : memB b l with
  | true => exact ⟨fun i h => h, fun _ => memB_spec l hb⟩
  | false => exact ⟨fun i h => by simp [h], fun _ => by simp⟩
noncomputable def putLK (m b : Nat) (l : List Nat) (k : List Nat -> Prop) : Prop := bFork (Nat.ble m b) (k l) (bFork (memB b l) (k l) (k (b :: l)))
theorem putLK_sound {m b : Nat} {l : List Nat} {k : List Nat -> Prop} (h : putLK m b l k) : k (insB m b l) := by
 unfold insB
 rcases bFork_sound h with ⟨hb, h⟩ | ⟨hb, h⟩
 ·rw [hb]; exact h
 ·rw [hb]
  rcases bFork_sound h with ⟨hb2, h⟩ | ⟨hb2, h⟩ <;> (rw [hb2]; exact h)
noncomputable def logK (m : Nat) (ws : Ws) : List Nat -> (List Nat -> Prop) -> Prop :=
 List.rec (motive := fun _ => List Nat -> (List Nat -> Prop) -> Prop) (fun wr k => k wr) (fun p _ ih wr k => putLK m p.1 wr fun wr' => ih wr' k) ws
theorem logK_sound {m : Nat} (ws : Ws) : ∀ {wr : List Nat} {k : List Nat -> Prop}, logK m ws wr k -> ∃ wr', k wr' /\ (∀ i, i ∈ wr -> i ∈ wr') /\ ∀ p ∈ ws, p.1 < m -> p.1 ∈ wr' := by
 induction ws with
 | nil => intro wr k h; exact ⟨wr, h, fun _ h => h, by simp⟩
 | cons p ws ih =>
  intro wr k h
  obtain ⟨wr', hk, h1, h2⟩ := ih (putLK_sound (k := fun wr' => logK m ws wr' k) h)
  refine ⟨wr', hk, fun i hi => h1 i (insB_spec.1 i hi), fun q hq hlt => ?_⟩
  rcases List.mem_cons.1 hq with rfl | hq
  ·exact h1 _ (insB_spec.2 hlt)
  ·exact h2 q hq hlt
noncomputable def mrgK (m : Nat) (l : List Nat) : List Nat -> (List Nat -> Prop) -> Prop :=
 List.rec (motive := fun _ => List Nat -> (List Nat -> Prop) -> Prop) (fun wr k => k wr) (fun b _ ih wr k => putLK m b wr fun wr' => ih wr' k) l
theorem mrgK_sound {m : Nat} (l : List Nat) : ∀ {wr : List Nat} {k : List Nat -> Prop}, mrgK m l wr k -> ∃ wr', k wr' /\ (∀ i, i ∈ wr -> i ∈ wr') /\ ∀ b ∈ l, b < m -> b ∈ wr' := by
 induction l with
 | nil => intro wr k h; exact ⟨wr, h, fun _ h => h, by simp⟩
 | cons p ws ih =>
  intro wr k h
  obtain ⟨wr', hk, h1, h2⟩ := ih (putLK_sound (k := fun wr' => mrgK m ws wr' k) h)
  refine ⟨wr', hk, fun i hi => h1 i (insB_spec.1 i hi), fun q hq hlt => ?_⟩
  rcases List.mem_cons.1 hq with rfl | hq
  ·exact h1 _ (insB_spec.2 hlt)
  ·exact h2 q hq hlt
def blkFK (b : Blk) (k : Blk -> Prop) : Prop := match b with
 | .fresh => k .fresh | .dead => k .dead
 | .fix t cs => k (.fix t cs)
 | .row t z es => k (.row t z es)
 | .prow t z es => k (.prow t z es)
 | .mapB es c => k (.mapB es c)
 | .pmap es c => k (.pmap es c)
 | .mit m s l st => k (.mit m s l st)
 | .sit s p => k (.sit s p)
 | .glob g t cs => k (.glob g t cs)
 | .tail t z es => k (.tail t z es)
 | .gap t z N lo hi a b c => k (.gap t z N lo hi a b c)
 | .gmap a b => k (.gmap a b)
theorem blkFK_sound {b : Blk} {k : Blk -> Prop} (h : blkFK b k) : k b := by cases b <;> exact h
noncomputable def updW (ws : Ws) : HW -> (HW -> Prop) -> Prop :=
 List.rec (motive := fun _ => HW -> (HW -> Prop) -> Prop) (fun H k => k H) (fun p _ ih H k => blkFK p.2 fun b => setH H p.1 b fun H' => ih H' k) ws
theorem updW_sound {ws : Ws} : ∀ {H : HW} {k : HW -> Prop}, updW ws H k -> ∃ H', k H' /\ H'.view = upd ws H.view := by
 induction ws with
 | nil => intro H k hk; exact ⟨H, hk, rfl⟩
 | cons p ws ih =>
  intro H k hk
  obtain ⟨H1, hk, _, hv⟩ := setH_sound (blkFK_sound (k := fun b => setH H p.1 b fun H' => updW ws H' k) hk)
  obtain ⟨H', hk, hv'⟩ := ih hk
  exact ⟨H', hk, by rw [hv', hv]; rfl⟩
def rf0 (s : SV) (acc : List Nat) : List Nat := match s with
 | .ptr b _ => b :: acc | .ep b _ _ => b :: acc | .sl b => b :: acc | .ss b _ _ => b :: acc | .mp b => b :: acc | .it b => b :: acc | .tl b _ => b :: acc | .tp b _ _ _ => b :: acc | .gp b _ _ _ => b :: acc
 | _ => acc
noncomputable def rfL (f : SV -> List Nat -> List Nat) (l : List SV) (acc : List Nat) : List Nat := List.rec (motive := fun _ => List Nat) acc (fun x _ ih => f x ih) l
noncomputable def rfS (n : Nat) : SV -> List Nat -> List Nat :=
 Nat.rec (motive := fun _ => SV -> List Nat -> List Nat) (fun s acc => rf0 s acc) (fun _ ih s acc => match s with
  | .agg cs => rfL ih cs acc
  | .tup cs => rfL ih cs acc
  | .fn _ cs => rfL ih cs acc
  | .mfn _ cs => rfL ih cs acc
  | .ifc _ s => ih s acc
  | s => rf0 s acc) n
noncomputable def rfB (b : Blk) (acc : List Nat) : List Nat := match b with
 | .fix _ cs => rfL (rfS 2) cs acc
 | .prow _ _ es => List.rec (motive := fun _ => List Nat) acc (fun e _ ih => rfL (rfS 2) e ih) es
 | .tail _ _ es => List.rec (motive := fun _ => List Nat) acc (fun e _ ih => rfL (rfS 2) e ih) es
 | .pmap es _ => List.rec (motive := fun _ => List Nat) acc (fun e _ ih => rfS 2 e.1 (rfS 2 e.2.1 ih)) es
 | .mit mb _ _ _ => (match mb with | some b => b :: acc | none => acc)
 | _ => acc
noncomputable def markW (hg : HgF) (m : Nat) (fuel : Nat) : List Nat -> Nat -> List Nat -> (List Nat -> Nat -> Prop) -> Prop :=
 Nat.rec (motive := fun _ => List Nat -> Nat -> List Nat -> (List Nat -> Nat -> Prop) -> Prop) (fun _ _ _ _ => False)
  (fun _ ih todo mk acc k => List.rec (motive := fun _ => Prop) (k acc mk) (fun b t _ =>
   bFork (Nat.ble m b) (bFork (tbB mk b) (ih t mk acc k) (hg b fun blk => natF (Nat.lor mk (Nat.shiftLeft 1 b)) fun mk' => ih (rfB blk t) mk' (b :: acc) k)) (ih t mk acc k)) todo) fuel
def BitsOf (mk : Nat) (acc : List Nat) : Prop := ∀ i, tbB mk i = true ↔ i ∈ acc
theorem bits_nil : BitsOf 0 [] := fun i => by rw [tbB_eq]; simp
theorem bits_cons {mk b : Nat} {acc : List Nat} (h : BitsOf mk acc) : BitsOf (Nat.lor mk (Nat.shiftLeft 1 b)) (b :: acc) := fun i => by
 rw [tbB_eq]
 show (mk ||| 1 <<< b).testBit i = true ↔ _
 rw [Nat.testBit_or, Nat.shiftLeft_eq, Nat.one_mul, Nat.testBit_two_pow]
 have := h i
 rw [tbB_eq] at this
 simp only [Bool.or_eq_true, decide_eq_true_eq, List.mem_cons, this]
 constructor
 ·rintro (h | h)
  ·exact .inr h
  ·exact .inl h.symm
 ·rintro (h | h)
  ·exact .inr h.symm
  ·exact .inl h
theorem markW_sound {h : Hp} {m : Nat} : ∀ (fuel : Nat) {todo : List Nat} {mk : Nat} {acc : List Nat} {k : List Nat -> Nat -> Prop}, markW (nthK h) m fuel todo mk acc k -> BitsOf mk acc -> (∀ b ∈ acc, b < h.length) ->
  ∃ acc' mk', k acc' mk' /\ BitsOf mk' acc' /\ ∀ b ∈ acc', b < h.length := by
 intro fuel
 induction fuel with
 | zero => intro todo mk acc k h; exact h.elim
 | succ n ih =>
  intro todo mk acc k h hb hl
  cases todo with
  | nil => exact ⟨acc, mk, h, hb, hl⟩
  | cons b t =>
   rcases bFork_sound (show bFork (Nat.ble m b) _ _ from h) with ⟨_, h⟩ | ⟨_, h⟩
   ·rcases bFork_sound h with ⟨_, h⟩ | ⟨_, h⟩
    ·exact ih h hb hl
    ·obtain ⟨blk, hblk, h⟩ := nthK_sound h
     have h := natF_sound (k := fun mk' => markW (nthK _) m n (rfB blk t) mk' (b :: acc) k) h
     refine ih h (bits_cons hb) fun c hc => ?_
     rcases List.mem_cons.1 hc with rfl | hc
     ·exact (List.getElem?_eq_some_iff.1 hblk).1
     ·exact hl c hc
   ·exact ih h hb hl
noncomputable def wrfK (hg : HgF) (wr : List Nat) : List Nat -> (List Nat -> Prop) -> Prop :=
 List.rec (motive := fun _ => List Nat -> (List Nat -> Prop) -> Prop) (fun acc k => k acc) (fun i _ ih acc k => hg i fun b => ih (rfB b acc) k) wr
theorem wrfK_sound {h : Hp} (wr : List Nat) : ∀ {acc : List Nat} {k : List Nat -> Prop}, wrfK (nthK h) wr acc k -> ∃ acc', k acc' := by
 induction wr with
 | nil => intro acc k h; exact ⟨_, h⟩
 | cons i wr ih =>
  intro acc k h
  obtain ⟨b, _, h⟩ := nthK_sound (show nthK _ i _ from h)
  exact ih h
noncomputable def numK (m : Nat) (acc : List Nat) : Nat -> List Nat -> (List (Nat × Nat) -> Prop) -> Prop :=
 List.rec (motive := fun _ => Nat -> List Nat -> (List (Nat × Nat) -> Prop) -> Prop) (fun _ _ k => k [])
  (fun a _ ih n seen k => bChk (Nat.ble m a) (bFork (memB a seen) False (ih (Nat.succ n) (a :: seen) fun al => k ((a, n) :: al)))) acc
theorem memB_false {b : Nat} (l : List Nat) (h : memB b l = false) : b ∉ l := by
 induction l with
 | nil => simp
 | cons x l ih =>
  cases hb : Nat.beq x b with
  | true =>
   have : memB b (x :: l) = true := by
    show Bool.rec (motive := fun _ => Bool) (memB b l) true (Nat.beq x b) = _
    rw [hb]
   rw [this] at h; simp at h
  | false =>
   have : memB b (x :: l) = memB b l := by
    show Bool.rec (motive := fun _ => Bool) (memB b l) true (Nat.beq x b) = _
    rw [hb]
   rw [this] at h
   have hne : x ≠ b := fun e => by subst e; rw [Nat.beq_refl] at hb; simp at hb
   simp [ih h, Ne.symm hne]
theorem numK_sound {m : Nat} (acc : List Nat) : ∀ {n : Nat} {seen : List Nat} {k : List (Nat × Nat) -> Prop}, numK m acc n seen k -> ∃ al, k al /\ (∀ (i : Nat) (p : Nat × Nat), al[i]? = some p -> m <= p.1 /\ p.2 = n + i /\ p.1 ∉ seen) /\
  ∀ (i j : Nat) (p q : Nat × Nat), al[i]? = some p -> al[j]? = some q -> p.1 = q.1 -> i = j := by
 induction acc with
 | nil => intro n seen k h; exact ⟨[], h, by simp, by simp⟩
 | cons a acc ih =>
  intro n seen k h
  obtain ⟨h1, h⟩ := bChk_sound (show bChk (Nat.ble m a) _ from h)
  have h1 := Nat.le_of_ble_eq_true h1
  rcases bFork_sound h with ⟨_, h⟩ | ⟨h2, h⟩
  ·exact h.elim
  ·have h2 := memB_false _ h2
   obtain ⟨al, hk, h3, h4⟩ := ih h
   refine ⟨_, hk, fun i p hp => ?_, fun i j p q hp hq he => ?_⟩
   ·cases i with
    | zero => simp at hp; subst hp; exact ⟨h1, rfl, h2⟩
    | succ i =>
     obtain ⟨a1, a2, a3⟩ := h3 i p (by simpa using hp)
     exact ⟨a1, by rw [a2]; omega, fun h => a3 (by simp [h])⟩
   ·cases i with
    | zero =>
     cases j with
     | zero => rfl
     | succ j =>
      simp at hp; subst hp
      exact absurd (by rw [<- he]; simp) (h3 j q (by simpa using hq)).2.2
    | succ i =>
     cases j with
     | zero =>
      simp at hq; subst hq
      exact absurd (by rw [he]; simp) (h3 i p (by simpa using hp)).2.2
     | succ j => rw [h4 i j p q (by simpa using hp) (by simpa using hq) he]
noncomputable def oldW (m : Nat) (al : List (Nat × Nat)) (hg' : HgF) (wr : List Nat) : HW -> (HW -> Prop) -> Prop :=
 List.rec (motive := fun _ => HW -> (HW -> Prop) -> Prop) (fun H k => k H) (fun i _ ih H k => hg' i fun b => rnBlkK m (fun _ => true) al b fun b' => setH H i b' fun H1 => ih H1 k) wr
theorem oldW_sound {m : Nat} {al : List (Nat × Nat)} {h' : Hp} (wr : List Nat) : ∀ {H : HW} {k : HW -> Prop}, oldW m al (nthK h') wr H k -> ∃ H1, k H1 /\ H1.view.length = H.view.length /\ (∀ i, i ∉ wr -> H1.view[i]? = H.view[i]?) /\
  ∀ i ∈ wr, ∃ b b', h'[i]? = some b /\ H1.view[i]? = some b' /\ RnB m (fun _ => true) al b b' := by
 induction wr with
 | nil => intro H k hk; exact ⟨H, hk, rfl, fun _ _ => rfl, by simp⟩
 | cons i wr ih =>
  intro H k hk
  obtain ⟨b, hb, hk⟩ := nthK_sound (show nthK h' i _ from hk)
  obtain ⟨b', hk, hr, _⟩ := rnBlkK_sound hk
  obtain ⟨H2, hk, hlt, hv⟩ := setH_sound hk
  obtain ⟨H1, hk, hl, h2, h3⟩ := ih hk
  refine ⟨H1, hk, by simp [hl, hv], fun j hj => ?_, fun j hj => ?_⟩
  ·simp at hj
   rw [h2 j hj.2, hv, List.getElem?_set, if_neg (fun e => hj.1 e.symm)]
  ·by_cases hjw : j ∈ wr
   ·exact h3 j hjw
   ·have : j = i := by simpa [hjw] using hj
    subst this
    exact ⟨b, b', hb, by rw [h2 j hjw, hv, List.getElem?_set, if_pos rfl, if_pos hlt], hr⟩
noncomputable def newW (m : Nat) (al : List (Nat × Nat)) (hg' : HgF) (l : List (Nat × Nat)) : HW -> (HW -> Prop) -> Prop :=
 List.rec (motive := fun _ => HW -> (HW -> Prop) -> Prop) (fun H k => k H) (fun p _ ih H k => hg' p.1 fun b => rnBlkK m (fun _ => true) al b fun b' => pushH H b' fun _ H1 => ih H1 k) l
theorem newW_sound {m : Nat} {al : List (Nat × Nat)} {h' : Hp} (l : List (Nat × Nat)) : ∀ {H : HW} {k : HW -> Prop}, newW m al (nthK h') l H k -> ∃ H' r, k H' /\ H'.view = H.view ++ r /\ r.length = l.length /\
  ∀ (i : Nat) (p : Nat × Nat) (b' : Blk), l[i]? = some p -> r[i]? = some b' -> ∃ b, h'[p.1]? = some b /\ RnB m (fun _ => true) al b b' := by
 induction l with
 | nil => intro H k h; exact ⟨H, [], h, by simp, rfl, by simp⟩
 | cons p l ih =>
  intro H k h
  obtain ⟨b, hb, h⟩ := nthK_sound (show nthK h' p.1 _ from h)
  obtain ⟨b', h, hr, _⟩ := rnBlkK_sound h
  obtain ⟨H1, h, hv⟩ := pushH_sound h
  obtain ⟨H', r, h, hv', hl, h2⟩ := ih h
  refine ⟨H', b' :: r, h, by rw [hv', hv]; simp, by simp [hl], fun i q c hq hc => ?_⟩
  cases i with
  | zero => simp at hq hc; subst hq; subst hc; exact ⟨b, hb, hr⟩
  | succ i => exact h2 i q c (by simpa using hq) (by simpa using hc)
noncomputable def gcW (m : Nat) (H H' : HW) (wr : List Nat) (s : SV) (k : SV -> HW -> Prop) : Prop :=
 wrfK (getH H') wr [] fun todo => markW (getH H') m 4096 (rfS 3 s todo) 0 [] fun acc _ => numK m acc m [] fun al => rnK m (fun _ => true) al 3 s fun s' => oldW m al (getH H') wr H fun H1 => newW m al (getH H') al H1 fun H'' => k s' H''
theorem gcW_sound {m : Nat} {H H' : HW} {wr : List Nat} {s : SV} {k : SV -> HW -> Prop} {h h' : Hp} (eH : H.view = h) (eH' : H'.view = h') (hm : m = h.length) (hk : gcW m H H' wr s k) (hc : Chg h h' wr) :
  ∃ s' H'' h'', H''.view = h'' /\ k s' H'' /\ Chg h h'' wr /\ h.length <= h''.length /\ ∀ (w0 w : World) (X : Nat -> Prop) (σ0 σ : Sg) (v : Value), Inv w0 X σ0 h -> Inv w X σ h' -> Rep w (Ex X σ) σ s v -> Step σ0.length w0 σ0 w σ ->
   ∃ σ'', Rep w (Ex X σ'') σ'' s' v /\ Inv w X σ'' h'' /\ Step σ0.length w0 σ0 w σ'' := by
 unfold gcW at hk
 rw [getH_eq, eH'] at hk
 obtain ⟨todo, hk⟩ := wrfK_sound wr hk
 obtain ⟨acc, _, hk, _, _⟩ := markW_sound 4096 hk bits_nil (by simp)
 obtain ⟨al, hk, hal, hinj⟩ := numK_sound acc hk
 obtain ⟨s', hk, hs⟩ := rnK_sound 3 hk
 obtain ⟨H1, hk, hl1, hold, hwr⟩ := oldW_sound wr hk
 obtain ⟨H2, news, hk, hv2, hln, hnew⟩ := newW_sound al hk
 rw [eH] at hl1 hold
 generalize H1.view = h1 at hl1 hold hwr hv2
 refine ⟨s', H2, h1 ++ news, hv2, hk, fun i hi hw => ?_, by rw [List.length_append, hl1]; omega, fun w0 w X σ0 σ v hI0 hI hr hS => ?_⟩
 ·rw [List.getElem?_append_left (by rw [hl1]; exact hi), hold i hw]
 ·have hσ0 : σ0.length = m := by rw [hI0.len, hm]
  let ρ : List (Option Nat) := (List.range m).map some ++ al.map fun p => some p.1
  have hρ1 : ∀ i, i < m -> ρ[i]? = some (some i) := fun i hi => by
   show ((List.range m).map some ++ al.map fun p => some p.1)[i]? = _
   rw [List.getElem?_append_left (by simpa using hi), List.getElem?_map, List.getElem?_range hi]; rfl
  have hρ2 : ∀ i, m <= i -> ρ[i]? = (al[i - m]?).map fun p => some p.1 := fun i hi => by
   show ((List.range m).map some ++ al.map fun p => some p.1)[i]? = _
   rw [List.getElem?_append_right (by simpa using hi), List.getElem?_map]; simp
  have hcase : ∀ i a, ρ[i]? = some (some a) -> (i < m /\ a = i) ∨ (m <= i /\ ∃ p, al[i - m]? = some p /\ a = p.1) := fun i a hi => by
   rcases Nat.lt_or_ge i m with hlt | hge
   ·rw [hρ1 i hlt] at hi; simp at hi; exact .inl ⟨hlt, hi.symm⟩
   ·rw [hρ2 i hge] at hi
    cases hp : al[i - m]? with
    | none => rw [hp] at hi; simp at hi
    | some p => rw [hp] at hi; simp at hi; exact .inr ⟨hge, p, rfl, hi.symm⟩
  have hmle : m <= h'.length := by
   rcases Nat.eq_zero_or_pos m with h0 | hpos
   ·omega
   ·have hi : m - 1 < σ0.length := by omega
    have he : σ0[m - 1]? = some σ0[m - 1] := List.getElem?_eq_getElem hi
    by_cases hf : σ0[m - 1] = .fresh
    ·have hb0 : h[m - 1]? = some .fresh := by
      have hlt : m - 1 < h.length := by omega
      have hb := hI0.ok (m - 1) _ _ (List.getElem?_eq_getElem hlt) he
      rw [hf] at hb
      rw [List.getElem?_eq_getElem hlt]
      cases hh : h[m - 1] <;> rw [hh] at hb <;> simp only [BlkOK] at hb
     by_cases hw : (m - 1) ∈ wr
     ·obtain ⟨b, _, hb, _⟩ := hwr _ hw
      have := (List.getElem?_eq_some_iff.1 hb).1
      omega
     ·have := hc (m - 1) (by omega) hw
      rw [hb0] at this
      have := (List.getElem?_eq_some_iff.1 this).1
      omega
    ·rw [<- hI.len]
     rcases hS.ents (m - 1) _ hi he hf with h1 | h1 <;> (have := (List.getElem?_eq_some_iff.1 h1).1; omega)
  have hlen : (h1 ++ news).length = ρ.length := by
   show _ = ((List.range m).map some ++ al.map fun p => some p.1).length
   simp [hl1, hln, hm]
  have htie : ∀ σ', (∀ (i a : Nat) (e : Ent), ρ[i]? = some (some a) -> σ[a]? = some e -> σ'[i]? = some e) -> TieN m (fun _ => true) al σ σ' := fun σ' hg => by
   refine ⟨fun i e hi _ he _ => hg i i e (hρ1 i hi) he, fun a j e ha he => ?_⟩
   obtain ⟨i, hi⟩ := List.mem_iff_getElem?.1 ha
   have := (hal i _ hi).2.1
   simp only at this
   subst this
   refine hg _ a e ?_ he
   rw [hρ2 _ (by omega), show m + i - m = i by omega, hi]; rfl
  have hgg : ∀ (i a : Nat) (e : Ent), ρ[i]? = some (some a) -> σ[a]? = some e -> (ρ.map (pickE σ))[i]? = some e := fun i a e h1 h2 => by
   rw [List.getElem?_map, h1]; simp [pickE, List.getD, h2]
  have hti := htie _ hgg
  obtain ⟨hI'', hE, _⟩ := place_inv hI (ρ := ρ) (h'' := h1 ++ news) hlen (fun i a hi => by
    rcases hcase i a hi with ⟨h1, rfl⟩ | ⟨h1, p, hp, rfl⟩
    ·omega
    ·have hi2 : i - m < news.length := by rw [hln]; exact (List.getElem?_eq_some_iff.1 hp).1
     obtain ⟨b, hb, _⟩ := hnew _ p _ hp (List.getElem?_eq_getElem hi2)
     exact (List.getElem?_eq_some_iff.1 hb).1) (fun i j a hi hj => by
    rcases hcase i a hi with ⟨a1, a2⟩ | ⟨a1, p, hp, a2⟩
    ·rcases hcase j a hj with ⟨b1, b2⟩ | ⟨b1, q, hq, b2⟩
     ·omega
     ·have := (hal _ q hq).1; omega
    ·rcases hcase j a hj with ⟨b1, b2⟩ | ⟨b1, q, hq, b2⟩
     ·have := (hal _ p hp).1; omega
     ·have := hinj _ _ p q hp hq (by omega); omega) (fun i b' hi hb' => by
    rcases Nat.lt_or_ge i m with hlt | hge
    ·rw [hρ1 i hlt] at hi; simp at hi
    ·rw [hρ2 i hge] at hi
     cases hp : al[i - m]? with
     | none => rw [hp] at hi; simp at hi
     | some p => rw [hp] at hi; simp at hi) (fun hE i a b b' e hi hb' hb he hok => by
    rcases hcase i a hi with ⟨a1, rfl⟩ | ⟨a1, p, hp, rfl⟩
    ·rw [List.getElem?_append_left (by rw [hl1, <- hm]; exact a1)] at hb'
     by_cases hw : a ∈ wr
     ·obtain ⟨c, c', hc1, hc2, hc3⟩ := hwr a hw
      rw [hb] at hc1; simp at hc1; subst hc1
      rw [hb'] at hc2; simp at hc2; subst hc2
      exact hc3 w _ _ σ _ e hti hE hok
     ·rw [hold a hw] at hb'
      have hcc := hc a (by omega) hw
      rw [hb, hb'] at hcc
      simp at hcc; subst hcc
      have hlt : a < σ0.length := by omega
      have he0 := List.getElem?_eq_getElem hlt
      have ok0 := hI0.ok a _ _ hb' he0
      exact BlkOK.bnd ok0 hσ0 hti hE hok
    ·rw [List.getElem?_append_right (by omega), hl1, <- hm] at hb'
     obtain ⟨c, hc1, hc2⟩ := hnew _ p b' hp hb'
     rw [hb] at hc1; simp at hc1; subst hc1
     exact hc2 w _ _ σ _ e hti hE hok)
  refine ⟨_, hs w _ _ σ _ v hti hE hr, hI'', ⟨hS.os, hS.tape, hS.output, hS.size, hS.frame, fun g ho hg => ?_, fun i e hi he hf => ?_⟩⟩
  ·have : Owned σ g := by
    rcases ho with ⟨i, e, he, hg'⟩
    rw [List.getElem?_map] at he
    cases hr' : ρ[i]? with
    | none => rw [hr'] at he; simp at he
    | some r =>
     rw [hr'] at he
     cases r with
     | none => simp [pickE] at he; subst he; simp [Ent.blk] at hg'
     | some a =>
      simp [pickE, List.getD] at he
      cases ha : σ[a]? with
      | none => rw [ha] at he; simp at he; subst he; simp [Ent.blk] at hg'
      | some e' => rw [ha] at he; simp at he; subst he; exact ⟨a, e', ha, hg'⟩
   exact hS.blks g this hg
  ·rcases hS.ents i e hi he hf with h1 | h1
   ·exact .inl (hgg i i e (hρ1 i (by omega)) h1)
   ·exact .inr (hgg i i _ (hρ1 i (by omega)) h1)
end
end Go.Sx

namespace Go.Sx
abbrev PostV := SX -> FW -> HW -> List Nat -> Prop
abbrev KV3 := SV -> HW -> List Nat -> Prop
abbrev RecV := Bool -> Nat -> Nat -> Code -> FW -> HW -> List Nat -> PostV -> Prop
abbrev PSp := List SV -> (SV -> Prop) -> Prop
abbrev HSp := List SV -> HW -> KV3 -> Prop
noncomputable def assocD {β : Type} (f : Nat) (l : List (Nat × β)) : Option β := List.rec (motive := fun _ => Option β) none (fun p _ ih => Bool.rec (motive := fun _ => Option β) ih (some p.2) (Nat.beq p.1 f)) l
structure Env where
 T : Tab
 FT : List (List Func)
 MT : List (TypeId × String × FuncId)
 ps : List (FuncId × PSp)
 hs : List (FuncId × HSp)
 it : List (TypeId × TypeId × Bool)
 c : Bool
section
variable {P : Program} {V : Env}
def CallGd (P : Program) (f : FuncId) (l : List SV) (h : Hp) (s : SV) (h' : Hp) : Prop := CallG P f l h fun s1 h1 => s1 = s /\ h1 = h'
structure CallL (P : Program) (f : FuncId) (l : List SV) (H : HW) (K : KV3) : Prop where
 ok : ∃ s H' wr, K s H' wr /\ Chg H.view H'.view wr /\ H.view.length <= H'.view.length /\ CallGd P f l H.view s H'.view
noncomputable def fnD (FT : List (List Func)) (f : Nat) : Option Func := thenD (lkD FT (Nat.div f 16)) fun l => lkD l (Nat.mod f 16)
noncomputable def fnK (FT : List (List Func)) (f : Nat) (k : Func -> Prop) : Prop := Option.rec (motive := fun _ => Prop) False k (fnD FT f)
def FTOK (P : Program) (FT : List (List Func)) : Prop := ∀ (f : Nat) (l : List Func) (fn : Func), FT[Nat.div f 16]? = some l -> l[Nat.mod f 16]? = some fn -> P.funcs[f]? = some fn /\ (fn.name == "runtime.NumGoroutine") = false
def bodyK (o : Option Code) (k : Code -> Prop) : Prop := match o with | some c => k c | none => False
noncomputable def retV (T : Tab) (fn : Func) (m : Nat) (H : HW) (K : KV3) : PostV := fun x F' H' wr => match x with
 | .exit _ => False
 | _ => resW H' fn.ntmps F' T fn.results.toList fun rl => tupK rl fun s => gcW m H H' wr s fun s' H'' => K s' H'' wr
noncomputable def callsV (P : Program) (V : Env) (rec : RecV) (f : FuncId) (l : List SV) (H : HW) (K : KV3) : Prop :=
 Option.rec (motive := fun _ => Prop) (Option.rec (motive := fun _ => Prop) (fnK V.FT f fun fn => bodyK fn.body fun cd => startW l fn.ntmps fun F => lenH H fun m => rec false m fn.ntmps cd F H [] (retV V.T fn m H K))
  (fun sp => sp l H K) (assocD f V.hs)) (fun sp => sp l fun s => K s H []) (assocD f V.ps)
noncomputable def mtK (MT : List (TypeId × String × FuncId)) (t : TypeId) (name : String) (k : FuncId -> Prop) : Prop :=
 List.rec (motive := fun _ => Prop) False (fun e _ ih => bFork (Nat.beq e.1 t) (bFork (decide (e.2.1 = name)) (k e.2.2) ih) ih) MT
def MTOK (P : Program) (MT : List (TypeId × String × FuncId)) : Prop := ∀ e ∈ MT, ∀ (w : World) (v : Value), (method (P.types.size + Made.depth) e.1 v e.2.1).run P w = .ok (e.2.2, v) w
theorem mtK_sound {MT : List (TypeId × String × FuncId)} {t : TypeId} {name : String} {k : FuncId -> Prop} (h : mtK MT t name k) : ∃ f, (t, name, f) ∈ MT /\ k f := by
 induction MT with
 | nil => exact h.elim
 | cons e MT ih =>
  rcases bFork_sound (show bFork (Nat.beq e.1 t) (bFork (decide (e.2.1 = name)) (k e.2.2) (mtK MT t name k)) (mtK MT t name k) from h) with ⟨hb, h⟩ | ⟨_, h⟩
  ·rcases bFork_sound h with ⟨hb2, h⟩ | ⟨_, h⟩
   ·have hb := Nat.eq_of_beq_eq_true hb
    have hb2 := of_decide_eq_true hb2
    exact ⟨e.2.2, by rw [<- hb, <- hb2]; simp, h⟩
   ·obtain ⟨f, h1, h2⟩ := ih h; exact ⟨f, by simp [h1], h2⟩
  ·obtain ⟨f, h1, h2⟩ := ih h; exact ⟨f, by simp [h1], h2⟩
noncomputable def plainV (V : Env) (m n : Nat) (F : FW) (H : HW) (wr : List Nat) (op : Op) (K : KV3) : Prop :=
 Bool.rec (motive := fun _ => Prop) (opVE V.T V.c (evW n F) (getH H) 0 op fun s ws _ => updW ws H fun H'' => logK m ws wr fun wr' => K s H'' wr')
  (pushH H .fresh fun nid H' => opVE V.T V.c (evW n F) (getH H') nid op fun s ws _ => updW ws H' fun H'' => logK m ws wr fun wr' => K s H'' wr') (needsV V.T op)
noncomputable def itK (IT : List (TypeId × TypeId × Bool)) (t u : Nat) (k : Bool -> Prop) : Prop :=
 List.rec (motive := fun _ => Prop) False (fun e _ ih => bFork (Nat.beq e.1 t) (bFork (Nat.beq e.2.1 u) (k e.2.2) ih) ih) IT
noncomputable def ifaceB (T : Tab) (t : Nat) : Bool := Option.rec (motive := fun _ => Bool) false (fun te => match te.ti with | .iface => true | _ => false) (tabD T t)
noncomputable def asrtV (V : Env) (n : Nat) (F : FW) (t : TypeId) (x : Operand) (K : SV -> Prop) : Prop := evW n F x fun s => match s with
 | .ifc u s0 => itK V.it t u fun b => Bool.rec (motive := fun _ => Prop) (zvK V.T t fun z => K (.tup [z, .ff])) (K (.tup [.ifc u s0, .tt])) b
 | _ => False
def ITOK (P : Program) (IT : List (TypeId × TypeId × Bool)) : Prop := ∀ e ∈ IT, ∃ ms i, P.underlying e.1 = some (.interface ms) /\ P.info? e.2.1 = some i /\ (Instr.missingMethod ms i.methods).isNone = e.2.2
theorem itK_sound {IT : List (TypeId × TypeId × Bool)} {t u : Nat} {k : Bool -> Prop} (h : itK IT t u k) : ∃ b, (t, u, b) ∈ IT /\ k b := by
 induction IT with
 | nil => exact h.elim
 | cons e IT ih =>
  rcases bFork_sound (show bFork (Nat.beq e.1 t) (bFork (Nat.beq e.2.1 u) (k e.2.2) (itK IT t u k)) (itK IT t u k) from h) with ⟨hb, h⟩ | ⟨_, h⟩
  ·rcases bFork_sound h with ⟨hb2, h⟩ | ⟨_, h⟩
   ·have hb := Nat.eq_of_beq_eq_true hb
    have hb2 := Nat.eq_of_beq_eq_true hb2
    exact ⟨e.2.2, by rw [<- hb, <- hb2]; simp, h⟩
   ·obtain ⟨b, h1, h2⟩ := ih h; exact ⟨b, by simp [h1], h2⟩
  ·obtain ⟨b, h1, h2⟩ := ih h; exact ⟨b, by simp [h1], h2⟩
abbrev OneFn := Program -> Env -> RecV -> Nat -> Nat -> FW -> HW -> List Nat -> KV3 -> Prop
noncomputable def oneB (op : Op) : Box OneFn :=
 match op with
 | .call ⟨.value x, xs, _⟩ => ⟨fun P V rec m n F H wr K => evW n F x fun x => (match x with
  | .fn f cs => evsE (evW n F) xs.toList fun l => appK l cs fun l => callsV P V rec f l H fun s H' wc => mrgK m wc wr fun wr' => K s H' wr'
  | .mfn f cs => evsE (evW n F) xs.toList fun l => appK cs l fun l => callsV P V rec f l H fun s H' wc => mrgK m wc wr fun wr' => K s H' wr'
  | _ => False)⟩
 | .call ⟨.invoke r name, xs, _⟩ => ⟨fun P V rec m n F H wr K => evW n F r fun x => (match x with
  | .ifc t s => mtK V.MT t name fun f => evsE (evW n F) xs.toList fun l => callsV P V rec f (s :: l) H fun s H' wc => mrgK m wc wr fun wr' => K s H' wr'
  | _ => False)⟩
 | .typeAssert x xt t true => ⟨fun _ V _ m n F H wr K => Bool.rec (motive := fun _ => Prop) (plainV V m n F H wr (.typeAssert x xt t true) K) (asrtV V n F t x fun s => K s H wr) (ifaceB V.T t)⟩
 | op => ⟨fun _ V _ m n F H wr K => plainV V m n F H wr op K⟩
noncomputable def oneV (P : Program) (V : Env) (rec : RecV) (m n : Nat) (F : FW) (H : HW) (wr : List Nat) (op : Op) (K : KV3) : Prop := (oneB op).run fun f => f P V rec m n F H wr K
abbrev OpsFn := Program -> Env -> RecV -> Nat -> Nat -> FW -> HW -> List Nat -> (FW -> HW -> List Nat -> Prop) -> Prop
noncomputable def opsB (all : List Oper) (l : List Oper) : Box OpsFn :=
 List.rec (motive := fun _ => Box OpsFn) ⟨fun _ _ _ _ _ F H wr K => K F H wr⟩
  (fun o _ ih => ⟨fun P V rec m n F H wr K => wantW all n F o.guard
   (oneV P V rec m n F H wr o.op fun s H' wr' => putW n F o.dst s fun F' => ih.run fun f => f P V rec m n F' H' wr' K)
   (putW n F o.dst .undef fun F' => ih.run fun f => f P V rec m n F' H wr K)⟩) l
noncomputable def opsV (P : Program) (V : Env) (rec : RecV) (m n : Nat) (all : List Oper) (l : List Oper) (F : FW) (H : HW) (wr : List Nat) (K : FW -> HW -> List Nat -> Prop) : Prop := (opsB all l).run fun f => f P V rec m n F H wr K
noncomputable def pushesH (n : Nat) : HW -> (HW -> Prop) -> Prop :=
 Nat.rec (motive := fun _ => HW -> (HW -> Prop) -> Prop) (fun H k => k H) (fun _ ih H k => pushH H .fresh fun _ H' => ih H' k) n
abbrev ResFn := Tab -> HW -> (List Nat -> HW -> Prop) -> Prop
noncomputable def resvB (l : List Oper) : Box ResFn :=
 List.rec (motive := fun _ => Box ResFn) ⟨fun _ H k => k [] H⟩
  (fun o _ ih => match o.op with
   | .call ⟨.value _, _, _⟩ => ⟨fun T H k => pushH H .fresh fun n H' => pushesH 15 H' fun H' => ih.run fun f => f T H' fun ns H'' => k (n :: ns) H''⟩
   | .call ⟨.invoke _ _, _, _⟩ => ⟨fun T H k => pushH H .fresh fun n H' => pushesH 15 H' fun H' => ih.run fun f => f T H' fun ns H'' => k (n :: ns) H''⟩
   | op => ⟨fun T H k => Bool.rec (motive := fun _ => Prop) (ih.run fun f => f T H fun ns H'' => k (0 :: ns) H'') (pushH H .fresh fun n H' => ih.run fun f => f T H' fun ns H'' => k (n :: ns) H'') (needsV T op)⟩) l
noncomputable def resvV (T : Tab) (l : List Oper) (H : HW) (k : List Nat -> HW -> Prop) : Prop := (resvB l).run fun f => f T H k
def deadW : R16 (R16 (R16 Blk)) := R16.rep (R16.rep (R16.rep .dead))
noncomputable def showK (hg : HgF) (acc : List Nat) : HW -> (HW -> Prop) -> Prop :=
 List.rec (motive := fun _ => HW -> (HW -> Prop) -> Prop) (fun D k => k D) (fun b _ ih D k => hg b fun x => setH D b x fun D' => ih D' k) acc
noncomputable def maskW (H : HW) (acc : List Nat) (k : HW -> Prop) : Prop := lenH H fun n => showK (getH H) acc ⟨n, deadW⟩ k
noncomputable def freshK (hg : HgF) (ok : Nat -> Bool) (al : List (Nat × Nat)) (k : List Nat -> Prop) : Prop :=
 List.rec (motive := fun _ => (List Nat -> Prop) -> Prop) (fun k => k []) (fun p _ ih k => hg p.2 fun b => match b with | .fresh => bFork (ok p.2) False (ih fun l => k (p.2 :: l)) | _ => False) al k
noncomputable def wsOldK (m : Nat) (ok : Nat -> Bool) (al : List (Nat × Nat)) (hg' : HgF) (wr : List Nat) : (Ws -> Prop) -> Prop :=
 List.rec (motive := fun _ => (Ws -> Prop) -> Prop) (fun k => k []) (fun i _ ih k => bFork (Nat.ble m i) False (bChk (ok i) (hg' i fun b => rnBlkK m ok al b fun b' => ih fun r => k ((i, b') :: r)))) wr
noncomputable def wsNewK (m : Nat) (ok : Nat -> Bool) (al : List (Nat × Nat)) (hg' : HgF) (l : List (Nat × Nat)) : (Ws -> Prop) -> Prop :=
 List.rec (motive := fun _ => (Ws -> Prop) -> Prop) (fun k => k []) (fun p _ ih k => hg' p.1 fun b => rnBlkK m ok al b fun b' => ih fun r => k ((p.2, b') :: r)) l
noncomputable def sameK (m : Nat) (ok : Nat -> Bool) (hg' : HgF) (wr : List Nat) (acc : List Nat) (k : Prop) : Prop :=
 List.rec (motive := fun _ => Prop) k (fun i _ ih => Bool.rec (motive := fun _ => Prop) (hg' i fun b => rnBlkK m ok [] b fun _ => ih) ih (memB i wr)) acc
noncomputable def tailD (m nid : Nat) (H : HW) (ok : Nat -> Bool) (rds : List Nat) (K : Kop) (s : SV) (H' : HW) (wr : List Nat) : Prop :=
  wrfK (getH H') wr [] fun todo => markW (getH H') m 4096 (rfS 3 s todo) 0 [] fun new _ => numK m new nid [] fun al => freshK (getH H) ok al fun js => rnK m ok al 3 s fun s' =>
   sameK m ok (getH H') wr rds (wsOldK m ok al (getH H') wr fun w1 => wsNewK m ok al (getH H') al fun w2 => appK w1 w2 fun ws => appK js rds fun rds' => K s' ws rds')
noncomputable def retD (T : Tab) (fn : Func) (m nid : Nat) (H : HW) (ok : Nat -> Bool) (rds : List Nat) (K : Kop) : PostV := fun x F' H' wr => match x with
 | .exit _ => False
 | _ => resW H' fn.ntmps F' T fn.results.toList fun rl => tupK rl fun s => tailD m nid H ok rds K s H' wr
noncomputable def callsD (P : Program) (V : Env) (rec : RecV) (f : FuncId) (l : List SV) (H : HW) (nid : Nat) (K : Kop) : Prop :=
 Option.rec (motive := fun _ => Prop) (Option.rec (motive := fun _ => Prop) (markW (getH H) 0 4096 (rfL (rfS 3) l []) 0 [] fun acc mk =>
  maskW H acc fun D => fnK V.FT f fun fn => bodyK fn.body fun cd => startW l fn.ntmps fun F => lenH H fun m =>
   rec false m fn.ntmps cd F D [] (retD V.T fn m nid H (tbB mk) acc K))
  (fun sp => markW (getH H) 0 4096 (0 :: rfL (rfS 3) l []) 0 [] fun acc mk => maskW H acc fun D => lenH H fun m => sp l D fun s H' wr => tailD m nid H (tbB mk) acc K s H' wr) (assocD f V.hs)) (fun sp => sp l fun s => K s [] []) (assocD f V.ps)
abbrev FireFn := Program -> Env -> RecV -> Nat -> FW -> HW -> Nat -> Kop -> Prop
noncomputable def fireB (op : Op) : Box FireFn :=
 match op with
 | .call ⟨.value x, xs, _⟩ => ⟨fun P V rec n F H nid K => evW n F x fun x => (match x with
  | .fn f cs => evsE (evW n F) xs.toList fun l => appK l cs fun l => callsD P V rec f l H nid K
  | .mfn f cs => evsE (evW n F) xs.toList fun l => appK cs l fun l => callsD P V rec f l H nid K
  | _ => False)⟩
 | .call ⟨.invoke r name, xs, _⟩ => ⟨fun P V rec n F H nid K => evW n F r fun x => (match x with
  | .ifc t s => mtK V.MT t name fun f => evsE (evW n F) xs.toList fun l => callsD P V rec f (s :: l) H nid K
  | _ => False)⟩
 | op => ⟨fun _ V _ n F H nid K => Bool.rec (motive := fun _ => Prop) (opVE V.T V.c (evW n F) (getH H) 0 op K) (getH H nid fun b => match b with | .fresh => opVE V.T V.c (evW n F) (getH H) nid op K | _ => False) (needsV V.T op)⟩
noncomputable def fireV (P : Program) (V : Env) (rec : RecV) (n : Nat) (F : FW) (H : HW) (nid : Nat) (op : Op) (K : Kop) : Prop := (fireB op).run fun f => f P V rec n F H nid K
abbrev DopsFn := Program -> Env -> RecV -> Nat -> List Nat -> FW -> HW -> (List Rec -> FW -> HW -> Prop) -> Prop
noncomputable def dopsB (all l : List Oper) : Box DopsFn :=
 List.rec (motive := fun _ => Box DopsFn) ⟨fun _ _ _ _ _ F H K => K [] F H⟩
  (fun o _ ih => ⟨fun P V rec n ids F H K => List.rec (motive := fun _ => Prop) False (fun nid ids' _ =>
   wantW all n F o.guard
    (fireV P V rec n F H nid o.op fun s ws rds => putW n F o.dst s fun F' => updW ws H fun H' => ih.run fun f => f P V rec n ids' F' H' fun rs => K (⟨s, ws, rds⟩ :: rs))
    (putW n F o.dst .undef fun F' => ih.run fun f => f P V rec n ids' F' H fun rs => K (⟨.undef, [], []⟩ :: rs))) ids⟩) l
noncomputable def dopsV (P : Program) (V : Env) (rec : RecV) (n : Nat) (all l : List Oper) (ids : List Nat) (F : FW) (H : HW) (K : List Rec -> FW -> HW -> Prop) : Prop := (dopsB all l).run fun f => f P V rec n ids F H K
noncomputable def logsK (m : Nat) (rs : List Rec) : List Nat -> (List Nat -> Prop) -> Prop :=
 List.rec (motive := fun _ => List Nat -> (List Nat -> Prop) -> Prop) (fun wr k => k wr) (fun r _ ih wr k => logK m r.ws wr fun wr' => ih wr' k) rs
noncomputable def planK (ops : Array Oper) (k : List Nat -> Prop) : Prop := Option.rec (motive := fun _ => Prop) False k (planD ops)
noncomputable def drawV (P : Program) (V : Env) (rec : RecV) (m n : Nat) (ops : Array Oper) (F : FW) (H : HW) (wr : List Nat) (K : FW -> HW -> List Nat -> Prop) : Prop :=
 planK ops fun cs => resvV V.T ops.toList H fun ids H' => dopsV P V rec n ops.toList ops.toList ids F H' fun rs F' H'' => touchK rs cs 0 [] (logsK m rs wr fun wr' => K F' H'' wr')
abbrev CodeFn := Program -> Env -> RecV -> Nat -> Nat -> FW -> HW -> List Nat -> PostV -> Prop
noncomputable def codeB (c : Code) : Box CodeFn :=
 Code.rec (motive := fun _ => Box CodeFn)
  ⟨fun _ _ _ _ _ F H wr K => K .normal F H wr⟩
  (fun _ ops draw => Bool.rec (motive := fun _ => Box CodeFn)
   ⟨fun P V rec m n F H wr K => opsV P V rec m n ops.toList ops.toList F H wr fun F H wr => K .normal F H wr⟩
   ⟨fun P V rec m n F H wr K => drawV P V rec m n ops F H wr fun F H wr => K .normal F H wr⟩ draw)
  (fun _ _ iha ihb => ⟨fun P V rec m n F H wr K => iha.run fun f => f P V rec m n F H wr fun x F H wr => match x with
   | .normal => ihb.run fun f => f P V rec m n F H wr K
   | .exit i => K (.exit i) F H wr
   | .ret => K .ret F H wr⟩)
  (fun c _ _ iha ihb => ⟨fun P V rec m n F H wr K => evW n F c fun s => match s with
   | .tt => iha.run fun f => f P V rec m n F H wr K
   | .ff => ihb.run fun f => f P V rec m n F H wr K
   | _ => False⟩)
  (fun id _ ih => ⟨fun P V rec m n F H wr K => ih.run fun f => f P V rec m n F H wr fun x F H wr => match x with
   | .normal => K .normal F H wr
   | .exit i => match Nat.beq i id with
    | true => K .normal F H wr
    | false => K (.exit i) F H wr
   | .ret => K .ret F H wr⟩)
  (fun c _ => ⟨fun _ _ rec m n F H wr K => rec true m n c F H wr K⟩)
  (fun _ _ _ _ _ _ => ⟨fun _ _ _ _ _ _ _ _ _ => False⟩)
  (fun id => ⟨fun _ _ _ _ _ F H wr K => K (.exit id) F H wr⟩)
  (fun _ ih => ⟨fun P V rec m n F H wr K => ih.run fun f => f P V rec m n F H wr K⟩)
  (fun _ => ⟨fun _ _ _ _ _ F H wr K => K .normal F H wr⟩)
  (fun _ => ⟨fun _ _ _ _ _ _ _ _ _ => False⟩)
  ⟨fun _ _ _ _ _ F H wr K => K .ret F H wr⟩
  (fun _ => ⟨fun _ _ _ _ _ _ _ _ _ => False⟩) c
noncomputable def codeV (P : Program) (V : Env) (rec : RecV) (m n : Nat) (c : Code) (F : FW) (H : HW) (wr : List Nat) (K : PostV) : Prop := (codeB c).run fun f => f P V rec m n F H wr K
noncomputable def roundV (rec : RecV) (m n : Nat) (c : Code) (K : PostV) : PostV := fun x F H wr => match x with
 | .normal => rec true m n c F H wr K
 | .exit i => K (.exit i) F H wr
 | .ret => K .ret F H wr
noncomputable def runV (P : Program) (V : Env) (fuel : Nat) : RecV :=
 Nat.rec (motive := fun _ => RecV) (fun _ _ _ _ _ _ _ _ => False) (fun _ rec b m n c F H wr K => codeV P V rec m n c F H wr (Bool.rec (motive := fun _ => PostV) K (roundV rec m n c K) b)) fuel
end
end Go.Sx

namespace Go.Sx
section
variable {P : Program} {V : Env}
/-- From heap h to h': blocks below m that are not listed are as they were. -/
structure Moved (m : Nat) (h : Hp) (wr : List Nat) (h' : Hp) (wr' : List Nat) : Prop where
 sub : ∀ i, i ∈ wr -> i ∈ wr'
 same : ∀ i, i < m -> i ∉ wr' -> h'[i]? = h[i]?
 le : h.length <= h'.length
theorem Moved.refl {m : Nat} {h : Hp} {wr : List Nat} : Moved m h wr h wr := ⟨fun _ h => h, fun _ _ _ => rfl, Nat.le_refl _⟩
theorem Moved.trans {m : Nat} {h h' h'' : Hp} {wr wr' wr'' : List Nat} (a : Moved m h wr h' wr') (b : Moved m h' wr' h'' wr'') : Moved m h wr h'' wr'' :=
 ⟨fun i hi => b.sub i (a.sub i hi), fun i hi hn => (b.same i hi hn).trans (a.same i hi fun h => hn (b.sub i h)), Nat.le_trans a.le b.le⟩
def Just (x : SX) (F : Fr) (h : Hp) : Post := fun x1 F1 h1 => x1 = x /\ F1 = F /\ h1 = h
def COK (P : Program) (b : Bool) (m : Nat) (c : Code) (F : Fr) (h : Hp) (K : Post) : Prop := match b with
 | false => SOK P m c F h K
 | true => ∃ n, ∀ (w : World) (X : Nat -> Prop) (σ : Sg) (tmps : Array Value), Inv w X σ h -> FRep w (Ex X σ) σ F tmps -> Code.rounds P c (SPost m X w σ K) n ⟨tmps, []⟩ w
def RecOK (P : Program) (rec : RecV) : Prop := ∀ (b : Bool) (m n : Nat) (c : Code) (F : FW) (H : HW) (wr : List Nat) (K : PostV), m <= H.view.length -> rec b m n c F H wr K ->
 ∃ x F' H' wr', K x F' H' wr' /\ COK P b m c (viewF n F) H.view (Just x (viewF n F') H'.view) /\ Moved m H.view wr H'.view wr'
structure EnvOK (P : Program) (V : Env) : Prop where
 tab : TabOK P V.T
 ft : FTOK P V.FT
 mt : MTOK P V.MT
 mixed : P.follows .mixedOrders = true
 it : ITOK P V.it
 ps : ∀ (f : FuncId) (sp : PSp), assocD f V.ps = some sp -> ∀ (l : List SV) (k : SV -> Prop), sp l k -> ∃ s, k s /\ PSpec P f l (· = s)
 hs : ∀ (f : FuncId) (sp : HSp), assocD f V.hs = some sp -> ∀ (l : List SV) (H : HW) (K : KV3), sp l H K -> CallL P f l H K
theorem fnK_sound (hV : EnvOK P V) {f : Nat} {k : Func -> Prop} (h : fnK V.FT f k) : ∃ fn, P.funcs[f]? = some fn /\ (fn.name == "runtime.NumGoroutine") = false /\ k fn := by
 unfold fnK at h
 cases hd : fnD V.FT f with
 | none => rw [hd] at h; exact h.elim
 | some fn =>
  rw [hd] at h
  obtain ⟨l, hl, hfn⟩ := thenD_eq hd
  rw [lkD_eq] at hl hfn
  obtain ⟨h1, h2⟩ := hV.ft f l fn hl hfn
  exact ⟨fn, h1, h2, h⟩
theorem bodyK_sound {o : Option Code} {k : Code -> Prop} (h : bodyK o k) : ∃ c, o = some c /\ k c := by
 cases o with
 | none => exact h.elim
 | some c => exact ⟨c, rfl, h⟩
theorem done_of_body {f : FuncId} {fn : Func} {c : Code} (hf : P.funcs[f]? = some fn) (hn : (fn.name == "runtime.NumGoroutine") = false) (hb : fn.body = some c)
  {x : SX} {F F' : Fr} {h h' : Hp} {args : List SV} {ss : List SV} {m : Nat}
  (hs : ∀ (w : World) (E : Nat -> Prop) (σ : Sg) (vs : List Value), RepL w E σ args vs -> FRep w E σ F (vs.toArray ++ Array.replicate (fn.ntmps - vs.toArray.size) Go.undef))
  (hc : SOK P m c F h (Just x F' h')) (hx : ∀ i, x ≠ .exit i)
  (hrs : ∀ (w : World) (X : Nat -> Prop) (σ : Sg) (tmps : Array Value), Inv w X σ h' -> FRep w (Ex X σ) σ F' tmps ->
   ∃ vs : List Value, (fn.results.toList.mapM fun | .tmp t => pure (tmps.getD t Go.undef) | .cell a t => do loadVar t (<- asAddr (tmps.getD a Go.undef)) : Sem (List Value)).run P w = .ok vs w /\ RepL w (Ex X σ) σ ss vs)
  {s : SV} (hst : ∀ (w : World) (E : Nat -> Prop) (σ : Sg) (vs : Array Value), RepL w E σ ss vs.toList -> Rep w E σ s (if h : vs.size = 1 then vs[0] else .tuple vs))
  {w : World} {X : Nat -> Prop} {σ : Sg} {vs : List Value} (hI : Inv w X σ h) (hr : RepL w (Ex X σ) σ args vs) :
  DoneS P (callFunc f vs.toArray) w fun v w' => ∃ σ', Rep w' (Ex X σ') σ' s v /\ Inv w' X σ' h' /\ Step m w σ w' σ' := by
 have hcall : (callFunc f vs.toArray).run P w = .ok (.enter f vs.toArray) w := by
  have h1 : fn.name ≠ "runtime.NumGoroutine" := by simpa using hn
  simp [callFunc, hf, h1, hb]
 unfold DoneS
 rw [hcall]
 refine calls_of_wp hf hb (wp_mono (hc w X σ _ hI (hs w _ σ vs hr)) fun e a w' hq => ?_)
 obtain ⟨hd, x1, F1, h1, σ', hx1, ⟨e1, e2, e3⟩, hI', hF', hS⟩ := hq
 subst e1; subst e2; subst e3
 have fin : a.defers = [] /\ ∃ v, (results fn a.tmps).run P w' = .ok v w' /\ ∃ v', Ending.returned v = .returned v' /\ ∃ σ', Rep w' (Ex X σ') σ' s v' /\ Inv w' X σ' h1 /\ Step m w σ w' σ' := by
  obtain ⟨vs', hrun, hrl⟩ := hrs w' X σ' a.tmps hI' hF'
  have hres : (results fn a.tmps).run P w' = .ok (if h : vs'.toArray.size = 1 then vs'.toArray[0] else .tuple vs'.toArray) w' := by
   unfold results
   rw [Array.mapM_eq_mapM_toList]
   simp only [Sem.run_bind, Sem.run_map, Sem.run_pure]
   erw [hrun]
   rfl
  exact ⟨hd, _, hres, _, rfl, σ', hst w' _ σ' vs'.toArray (by simpa using hrl), hI', hS⟩
 cases e <;> cases hx1
 case normal => exact fin
 case ret => exact fin
 case exit id => exact absurd rfl (hx id)
theorem callsV_sound (hV : EnvOK P V) {rec : RecV} (hrec : RecOK P rec) {f : FuncId} {l : List SV} {H : HW} {K : KV3} (hk : callsV P V rec f l H K) :
  ∃ s H' wc, K s H' wc /\ Chg H.view H'.view wc /\ H.view.length <= H'.view.length /\ CallGd P f l H.view s H'.view := by
 unfold callsV at hk
 cases hp : assocD f V.ps with
 | some sp =>
  rw [hp] at hk
  obtain ⟨s, hk, hs⟩ := hV.ps f sp hp l _ hk
  exact ⟨s, H, [], hk, .refl _ _, Nat.le_refl _, hs.call fun s' e => ⟨e, rfl⟩⟩
 | none =>
 rw [hp] at hk
 cases hh : assocD f V.hs with
 | some sp =>
  rw [hh] at hk
  exact (hV.hs f sp hh l H K hk).ok
 | none =>
  rw [hh] at hk
  obtain ⟨fn, hf, hn, hk⟩ := fnK_sound hV hk
  obtain ⟨c, hb, hk⟩ := bodyK_sound hk
  obtain ⟨F, hk, hs⟩ := startW_sound hk
  have hk := lenH_sound (k := fun m => rec false m fn.ntmps c F H [] (retV V.T fn m H K)) hk
  obtain ⟨x, F', H', wr', hk, hc, hM⟩ := hrec false H.view.length fn.ntmps c F H [] _ (Nat.le_refl _) hk
  have hc : SOK P H.view.length c (viewF fn.ntmps F) H.view (Just x (viewF fn.ntmps F') H'.view) := hc
  have key : (∀ i, x ≠ .exit i) /\ resW H' fn.ntmps F' V.T fn.results.toList fun rl => tupK rl fun s => gcW H.view.length H H' wr' s fun s' H'' => K s' H'' wr' := by
   cases x with
   | normal => exact ⟨by simp, hk⟩
   | ret => exact ⟨by simp, hk⟩
   | exit i => exact hk.elim
  obtain ⟨hx, hk⟩ := key
  rw [resW_eq] at hk
  obtain ⟨ss, hk, hrs⟩ := resK_sound hV.tab _ hk
  obtain ⟨s, hk, hst⟩ := tupK_sound hk
  obtain ⟨s', H'', h'', hv, hk, hchg, hle, hgc⟩ := gcW_sound rfl rfl rfl hk hM.same
  subst hv
  refine ⟨s', H'', wr', hk, hchg, hle, ⟨fun w X σ vs hI hr => ?_⟩⟩
  refine (done_of_body hf hn hb hs hc hx hrs hst hI hr).mono fun v w' ⟨σ', hrep, hI', hS⟩ => ?_
  rw [<- hI.len] at hS
  obtain ⟨σ'', h1, h2, h3⟩ := hgc w w' X σ σ' v hI hI' hrep hS
  exact ⟨s', H''.view, σ'', ⟨rfl, rfl⟩, h1, h2, h3⟩
def OneOK (P : Program) (F : Fr) (h : Hp) (op : Op) (s : SV) (h' : Hp) : Prop :=
 ∀ (w : World) (X : Nat -> Prop) (σ : Sg) (a : Act) (d : Option Tmp) (ty : TypeId) (pos : String) (after : Array Edge) (guard : Option (Nat × Bool)), Inv w X σ h -> FRep w (Ex X σ) σ F a.tmps ->
  DoneS P (execOp a.eval ⟨d, op, ty, pos, after, guard⟩) w fun v w' => ∃ σ', Rep w' (Ex X σ') σ' s v /\ Inv w' X σ' h' /\ Step σ.length w σ w' σ'
theorem OpRes.done {m : Sem Next} {w : World} {X : Nat -> Prop} {σ : Sg} {h2 : Hp} {s : SV} {ws : Ws} (h : OpRes P m w X σ h2 s ws) :
  DoneS P m w fun v w' => ∃ σ', Rep w' (Ex X σ') σ' s v /\ Inv w' X σ' (upd ws h2) /\ Step σ.length w σ w' σ' :=
 DoneS.mono h fun _ _ ⟨σ', h1, h2, h3, _⟩ => ⟨σ', h1, h2, h3⟩
theorem opVE_view {T : Tab} {c : Bool} {n : Nat} {F : FW} {H : HW} {nid : Nat} {op : Op} {K : Kop} (h : opVE T c (evW n F) (getH H) nid op K) : opV T c (viewF n F) H.view nid op K := by
 rw [evW_eq, getH_eq] at h
 exact h
theorem plainV_sound (hV : EnvOK P V) {m n : Nat} {F : FW} {H : HW} {wr : List Nat} {op : Op} {K : KV3} (hm : m <= H.view.length) (hk : plainV V m n F H wr op K) :
  ∃ s H' wr', K s H' wr' /\ OneOK P (viewF n F) H.view op s H'.view /\ Moved m H.view wr H'.view wr' := by
 unfold plainV at hk
 cases hn : needsV V.T op with
 | false =>
  rw [hn] at hk
  obtain ⟨s, ws, rds, hk, hok, _⟩ := opV_sound hV.tab (fun h' => by rw [hn] at h'; simp at h') (opVE_view (show opVE V.T V.c (evW n F) (getH H) 0 op _ from hk))
  obtain ⟨H', hk, hv⟩ := updW_sound hk
  obtain ⟨wr', hk, h1, h2⟩ := logK_sound ws hk
  refine ⟨s, H', wr', hk, fun w X σ a d ty pos after guard hI hF => ?_, h1, fun i hi hn => ?_, by rw [hv, upd_len]; exact Nat.le_refl _⟩
  ·rw [hv]
   exact (hok w X σ _ a.eval d ty pos after guard hI (fun x _ => hF.opn x) (fun _ _ => rfl)).done
  ·rw [hv]
   exact upd_get ws fun p hp he => hn (by subst he; exact h2 p hp hi)
 | true =>
  rw [hn] at hk
  obtain ⟨H1, hk, hv1⟩ := pushH_sound hk
  have hk := opVE_view hk
  rw [hv1] at hk
  obtain ⟨s, ws, rds, hk, hok, _⟩ := opV_sound hV.tab (fun _ => by simp) hk
  obtain ⟨H', hk, hv⟩ := updW_sound hk
  rw [hv1] at hv
  obtain ⟨wr', hk, h1, h2⟩ := logK_sound ws hk
  refine ⟨s, H', wr', hk, fun w X σ a d ty pos after guard hI hF => ?_, h1, fun i hi hn => ?_, by rw [hv, upd_len]; simp⟩
  ·obtain ⟨hI', hS'⟩ := hI.fresh
   have hF' := hF.step hS' (Nat.le_refl _)
   rw [hv]
   exact ((hok w X _ _ a.eval d ty pos after guard hI' (fun x _ => hF'.opn x) (fun _ _ => rfl)).done).mono fun v w' ⟨σ', a1, a2, a3⟩ => ⟨σ', a1, a2, hS'.trans a3.any⟩
  ·rw [hv, upd_get ws fun p hp he => hn (by subst he; exact h2 p hp hi), List.getElem?_append_left (by omega)]
theorem callval_run {a : Act} {x : Operand} {xs : Array Operand} {ats : Array TypeId} {f : FuncId} {vs : Array Value} (hρ : a.eval x = .func (.func f) #[] vs) {d : Option Tmp} {ty : TypeId} {pos : String} {after : Array Edge} {guard : Option (Nat × Bool)} :
  execOp a.eval ⟨d, .call ⟨.value x, xs, ats⟩, ty, pos, after, guard⟩ = callFunc f ((xs.toList.map a.eval ++ vs.toList).toArray) := by
 have e1 : (xs.toList.map a.eval ++ vs.toList).toArray = xs.map a.eval ++ vs := by
  apply Array.ext'; simp
 rw [e1]
 simp [execOp, resolve, hρ, Deferred.ofValue, invoke]
theorem DoneS.congr {m m' : Sem Next} {w : World} {R : Value -> World -> Prop} (h : DoneS P m w R) (e : m'.run P w = m.run P w) : DoneS P m' w R := by
 unfold DoneS at *; rw [e]; exact h
theorem invoke_run (hV : EnvOK P V) {t : TypeId} {name : String} {f : FuncId} (hmt : (t, name, f) ∈ V.MT) {a : Act} {r : Operand} {xs : Array Operand} {ats : Array TypeId} {v : Value} (hρ : a.eval r = .iface t v) {d : Option Tmp} {ty : TypeId} {pos : String} {after : Array Edge} {guard : Option (Nat × Bool)} (w : World) :
  (execOp a.eval ⟨d, .call ⟨.invoke r name, xs, ats⟩, ty, pos, after, guard⟩).run P w = (callFunc f ((v :: xs.toList.map a.eval).toArray)).run P w := by
 have hm := hV.mt _ hmt w v
 have e1 : (v :: xs.toList.map a.eval).toArray = #[v] ++ xs.map a.eval := by
  apply Array.ext'; simp
 have e2 : (#[Value.iface t v] ++ xs.map a.eval).extract 1 (#[Value.iface t v] ++ xs.map a.eval).size = xs.map a.eval := by
  apply Array.ext'; simp [List.take_of_length_le]
 rw [e1]
 simp only [execOp, resolve, hρ, Sem.run_bind, Sem.run_pure, Result.andThen_ok, invoke]
 rw [show (#[Value.iface t v] ++ Array.map a.eval xs)[0]? = some (Value.iface t v) by rw [Array.getElem?_append_left (by simp)]; rfl]
 simp only [e2, callMethod, Sem.run_bind]
 have hp : (program : Sem Program).run P w = .ok P w := rfl
 simp only [hp, Result.andThen_ok, hm]
theorem callV_one {F : Fr} {h h' : Hp} {x : Operand} {xs : Array Operand} {ats : Array TypeId} {f : FuncId} {cs l : List SV} {s : SV}
  (hx : ∀ (w : World) (E : Nat -> Prop) (σ : Sg) (ρ : Operand -> Value), OpnRep w E σ F ρ x -> Rep w E σ (.fn f cs) (ρ x))
  (hl : ∀ (w : World) (E : Nat -> Prop) (σ : Sg) (ρ : Operand -> Value), (∀ y ∈ xs.toList, OpnRep w E σ F ρ y) -> RepL w E σ l (xs.toList.map ρ))
  (hc : CallGd P f (l ++ cs) h s h') : OneOK P F h (.call ⟨.value x, xs, ats⟩) s h' := by
 intro w X σ a d ty pos after guard hI hF
 have hr := hx w _ σ a.eval (hF.opn x)
 have hls := hl w _ σ a.eval fun y _ => hF.opn y
 generalize hρ : a.eval x = vx at hr
 cases hr with
 | @fn _ _ _ vs hlen hcs =>
  rw [callval_run hρ]
  refine (hc.ok w X σ _ hI ⟨by rw [List.length_append, List.length_append, hls.1, hlen]; simp, fun i s v hs hv => ?_⟩).mono fun v w' ⟨s1, h1, σ', ⟨e1, e2⟩, a1, a2, a3⟩ => ?_
  ·rw [List.getElem?_append] at hs hv
   rw [<- hls.1] at hv
   split at hs
   ·rename_i hlt
    rw [if_pos hlt] at hv
    exact hls.2 i s v hs hv
   ·rename_i hlt
    rw [if_neg hlt] at hv
    exact hcs _ s v hs (by simpa using hv)
  ·subst e1; subst e2; exact ⟨σ', a1, a2, a3⟩
theorem callmfn_run {a : Act} {x : Operand} {xs : Array Operand} {ats : Array TypeId} {f : FuncId} {vs : Array Value} (hρ : a.eval x = .func (.func f) vs #[]) {d : Option Tmp} {ty : TypeId} {pos : String} {after : Array Edge} {guard : Option (Nat × Bool)} :
  execOp a.eval ⟨d, .call ⟨.value x, xs, ats⟩, ty, pos, after, guard⟩ = callFunc f ((vs.toList ++ xs.toList.map a.eval).toArray) := by
 have e1 : (vs.toList ++ xs.toList.map a.eval).toArray = vs ++ xs.map a.eval := by
  apply Array.ext'; simp
 rw [e1]
 simp [execOp, resolve, hρ, Deferred.ofValue, invoke]
theorem callM_one {F : Fr} {h h' : Hp} {x : Operand} {xs : Array Operand} {ats : Array TypeId} {f : FuncId} {cs l : List SV} {s : SV}
  (hx : ∀ (w : World) (E : Nat -> Prop) (σ : Sg) (ρ : Operand -> Value), OpnRep w E σ F ρ x -> Rep w E σ (.mfn f cs) (ρ x))
  (hl : ∀ (w : World) (E : Nat -> Prop) (σ : Sg) (ρ : Operand -> Value), (∀ y ∈ xs.toList, OpnRep w E σ F ρ y) -> RepL w E σ l (xs.toList.map ρ))
  (hc : CallGd P f (cs ++ l) h s h') : OneOK P F h (.call ⟨.value x, xs, ats⟩) s h' := by
 intro w X σ a d ty pos after guard hI hF
 have hr := hx w _ σ a.eval (hF.opn x)
 have hls := hl w _ σ a.eval fun y _ => hF.opn y
 generalize hρ : a.eval x = vx at hr
 cases hr with
 | @mfn _ _ _ vs hlen hcs =>
  rw [callmfn_run hρ]
  refine (hc.ok w X σ _ hI ⟨by rw [List.length_append, List.length_append, hls.1, hlen]; simp, fun i s v hs hv => ?_⟩).mono fun v w' ⟨s1, h1, σ', ⟨e1, e2⟩, a1, a2, a3⟩ => ?_
  ·rw [List.getElem?_append] at hs hv
   rw [show vs.toList.length = cs.length by simp [hlen]] at hv
   split at hs
   ·rename_i hlt
    rw [if_pos hlt] at hv
    exact hcs i s v hs (by simpa using hv)
   ·rename_i hlt
    rw [if_neg hlt] at hv
    exact hls.2 _ s v hs hv
  ·subst e1; subst e2; exact ⟨σ', a1, a2, a3⟩
theorem invV_one (hV : EnvOK P V) {F : Fr} {h h' : Hp} {r : Operand} {name : String} {xs : Array Operand} {ats : Array TypeId} {f : FuncId} {t : TypeId} {s0 : SV} {l : List SV} {s : SV} (hmt : (t, name, f) ∈ V.MT)
  (hx : ∀ (w : World) (E : Nat -> Prop) (σ : Sg) (ρ : Operand -> Value), OpnRep w E σ F ρ r -> Rep w E σ (.ifc t s0) (ρ r))
  (hl : ∀ (w : World) (E : Nat -> Prop) (σ : Sg) (ρ : Operand -> Value), (∀ y ∈ xs.toList, OpnRep w E σ F ρ y) -> RepL w E σ l (xs.toList.map ρ))
  (hc : CallGd P f (s0 :: l) h s h') : OneOK P F h (.call ⟨.invoke r name, xs, ats⟩) s h' := by
 intro w X σ a d ty pos after guard hI hF
 have hr := hx w _ σ a.eval (hF.opn r)
 have hls := hl w _ σ a.eval fun y _ => hF.opn y
 generalize hρ : a.eval r = vx at hr
 cases hr with
 | @ifc _ _ _ v hrv =>
  refine DoneS.congr ?_ (invoke_run hV hmt hρ w)
  refine (hc.ok w X σ _ hI ⟨by simp [hls.1], fun i s v' hs hv => ?_⟩).mono fun v w' ⟨s1, h1, σ', ⟨e1, e2⟩, a1, a2, a3⟩ => ?_
  ·cases i with
   | zero => simp at hs hv; subst hs; subst hv; exact hrv
   | succ i => exact hls.2 i s v' (by simpa using hs) (by simpa using hv)
  ·subst e1; subst e2; exact ⟨σ', a1, a2, a3⟩
theorem evsE_sound {n : Nat} {F : FW} {l : List Operand} {k : List SV -> Prop} (h : evsE (evW n F) l k) : ∃ ss, k ss /\ ∀ (w : World) (E : Nat -> Prop) (σ : Sg) (ρ : Operand -> Value), (∀ x ∈ l, OpnRep w E σ (viewF n F) ρ x) -> RepL w E σ ss (l.map ρ) := by
 rw [evW_eq] at h
 exact evsK_sound h
theorem evW_sound {n : Nat} {F : FW} {x : Operand} {k : SV -> Prop} (h : evW n F x k) : ∃ s, k s /\ ∀ (w : World) (E : Nat -> Prop) (σ : Sg) (ρ : Operand -> Value), OpnRep w E σ (viewF n F) ρ x -> Rep w E σ s (ρ x) := by
 rw [evW_eq] at h
 exact evK_sound h
theorem asrtV_sound (hV : EnvOK P V) {n : Nat} {F : FW} {t : TypeId} {x : Operand} {xt : TypeId} {h : Hp} {K : SV -> Prop} (hk : asrtV V n F t x K) : ∃ s, K s /\ OneOK P (viewF n F) h (.typeAssert x xt t true) s h := by
 obtain ⟨sx, hk, hx⟩ := evW_sound hk
 cases sx with
 | ifc u s0 =>
  obtain ⟨b, hm, hk⟩ := itK_sound (show itK V.it t u _ from hk)
  obtain ⟨ms, i, hu, hi, hmi⟩ := hV.it _ hm
  simp only at hu hi hmi
  cases b with
  | true =>
   refine ⟨_, hk, fun w X σ a d ty pos after guard hI hF => ?_⟩
   have hr := hx w _ σ a.eval (hF.opn x)
   generalize hρ : a.eval x = vx at hr
   cases hr with
   | @ifc _ _ _ v hrv =>
    unfold DoneS
    have hrun : (Instr.typeAssert (.iface u v) xt t true).run P w = .ok (.tuple #[.iface u v, .bool true]) w := by
     simp only [Instr.typeAssert, Sem.run_bind, run_underlying' hu, Result.andThen_ok, run_info hi]
     cases hmm : Instr.missingMethod ms i.methods with
     | none => rfl
     | some _ => rw [hmm] at hmi; simp at hmi
    have : (execOp a.eval ⟨d, .typeAssert x xt t true, ty, pos, after, guard⟩).run P w = .ok (.value (.tuple #[.iface u v, .bool true])) w := by
     simp only [execOp, hρ, Sem.run_bind, hrun, Result.andThen_ok, Sem.run_pure]
    rw [this]
    exact ⟨σ, rep_tup2 (.ifc hrv) .tt, hI, .refl _ _ _⟩
  | false =>
   obtain ⟨z, vz, hk, hz, hrz⟩ := zvK_sound hV.tab (show zvK V.T t _ from hk)
   refine ⟨_, hk, fun w X σ a d ty pos after guard hI hF => ?_⟩
   have hr := hx w _ σ a.eval (hF.opn x)
   generalize hρ : a.eval x = vx at hr
   cases hr with
   | @ifc _ _ _ v hrv =>
    unfold DoneS
    have hrun : (Instr.typeAssert (.iface u v) xt t true).run P w = .ok (.tuple #[vz, .bool false]) w := by
     simp only [Instr.typeAssert, Sem.run_bind, run_underlying' hu, Result.andThen_ok, run_info hi]
     cases hmm : Instr.missingMethod ms i.methods with
     | none => rw [hmm] at hmi; simp at hmi
     | some m => simp [hz w]
    have : (execOp a.eval ⟨d, .typeAssert x xt t true, ty, pos, after, guard⟩).run P w = .ok (.value (.tuple #[vz, .bool false])) w := by
     simp only [execOp, hρ, Sem.run_bind, hrun, Result.andThen_ok, Sem.run_pure]
    rw [this]
    exact ⟨σ, rep_tup2 (hrz _ _ _) .ff, hI, .refl _ _ _⟩
 | _ => exact hk.elim
theorem oneV_sound (hV : EnvOK P V) {rec : RecV} (hrec : RecOK P rec) {m n : Nat} {F : FW} {H : HW} {wr : List Nat} {op : Op} {K : KV3} (hm : m <= H.view.length) (hk : oneV P V rec m n F H wr op K) :
  ∃ s H' wr', K s H' wr' /\ OneOK P (viewF n F) H.view op s H'.view /\ Moved m H.view wr H'.view wr' := by
 cases op with
 | call c =>
  obtain ⟨callee, xs, ats⟩ := c
  cases callee with
  | value x =>
   obtain ⟨sx, hk, hx⟩ := evW_sound (show evW n F x _ from hk)
   cases sx with
   | fn f cs =>
    obtain ⟨l, hk, hl⟩ := evsE_sound hk
    have hk := appK_sound hk
    obtain ⟨s, H', wc, hk, hchg, hle, hc⟩ := callsV_sound hV hrec hk
    obtain ⟨wr', hk, h1, h2⟩ := mrgK_sound wc hk
    exact ⟨s, H', wr', hk, callV_one hx hl hc, h1, fun i hi hn => hchg i (by omega) fun hw => hn (h2 i hw hi), hle⟩
   | mfn f cs =>
    obtain ⟨l, hk, hl⟩ := evsE_sound hk
    have hk := appK_sound hk
    obtain ⟨s, H', wc, hk, hchg, hle, hc⟩ := callsV_sound hV hrec hk
    obtain ⟨wr', hk, h1, h2⟩ := mrgK_sound wc hk
    exact ⟨s, H', wr', hk, callM_one hx hl hc, h1, fun i hi hn => hchg i (by omega) fun hw => hn (h2 i hw hi), hle⟩
   | _ => exact hk.elim
  | invoke r name =>
   obtain ⟨sx, hk, hx⟩ := evW_sound (show evW n F r _ from hk)
   cases sx with
   | ifc t s0 =>
    obtain ⟨f, hmt, hk⟩ := mtK_sound hk
    obtain ⟨l, hk, hl⟩ := evsE_sound hk
    obtain ⟨s, H', wc, hk, hchg, hle, hc⟩ := callsV_sound hV hrec hk
    obtain ⟨wr', hk, h1, h2⟩ := mrgK_sound wc hk
    exact ⟨s, H', wr', hk, invV_one hV hmt hx hl hc, h1, fun i hi hn => hchg i (by omega) fun hw => hn (h2 i hw hi), hle⟩
   | _ => exact hk.elim
  | builtin b => exact plainV_sound hV hm hk
 | typeAssert x xt t ok =>
  cases ok with
  | false => exact plainV_sound hV hm hk
  | true =>
   have hk : Bool.rec (motive := fun _ => Prop) (plainV V m n F H wr (.typeAssert x xt t true) K) (asrtV V n F t x fun s => K s H wr) (ifaceB V.T t) := hk
   cases hb : ifaceB V.T t with
   | false => rw [hb] at hk; exact plainV_sound hV hm hk
   | true =>
    rw [hb] at hk
    obtain ⟨s, hk, h1⟩ := asrtV_sound hV (xt := xt) (h := H.view) hk
    exact ⟨s, H, wr, hk, h1, .refl⟩
 | _ => exact plainV_sound hV hm hk
theorem FRep.putD {w : World} {E : Nat -> Prop} {σ : Sg} {F : Fr} {a : Act} {d : Option Tmp} {s : SV} {v : Value} (h : FRep w E σ F a.tmps) (hr : Rep w E σ s v) : FRep w E σ (setD F d s) (a.put d v).tmps := by
 cases d with
 | none => exact h
 | some d => exact h.set hr
theorem opsV_sound (hV : EnvOK P V) {rec : RecV} (hrec : RecOK P rec) {m n : Nat} {ops : Array Oper} (l : List Oper) : ∀ {F : FW} {H : HW} {wr : List Nat} {K : FW -> HW -> List Nat -> Prop}, m <= H.view.length ->
  opsV P V rec m n ops.toList l F H wr K -> ∃ F' H' wr', K F' H' wr' /\ Moved m H.view wr H'.view wr' /\ ∀ (w : World) (X : Nat -> Prop) (σ : Sg) (tmps : Array Value), Inv w X σ H.view -> FRep w (Ex X σ) σ (viewF n F) tmps ->
   wpList P ops (SPost m X w σ (Just .normal (viewF n F') H'.view)) l ⟨tmps, []⟩ w := by
 induction l with
 | nil => intro F H wr K _ hk; exact ⟨F, H, wr, hk, .refl, fun w X σ tmps hI hF => ⟨rfl, .normal, _, _, σ, rfl, ⟨rfl, rfl, rfl⟩, hI, hF, .refl _ _ _⟩⟩
 | cons o l ih =>
  intro F H wr K hm hk
  have hk0 : wantW ops.toList n F o.guard (oneV P V rec m n F H wr o.op fun s H' wr' => putW n F o.dst s fun F' => opsV P V rec m n ops.toList l F' H' wr' K)
   (putW n F o.dst .undef fun F' => opsV P V rec m n ops.toList l F' H wr K) := hk
  rw [wantW_eq] at hk0
  obtain ⟨b, hk, hw⟩ := wantK_sound hk0
  cases b with
  | true =>
   simp only [if_true] at hk
   obtain ⟨s, H1, wr1, hk, hone, hM⟩ := oneV_sound hV hrec hm hk
   obtain ⟨F1, hk, hp⟩ := putW_sound hk
   obtain ⟨F', H', wr', hk, hM', hrest⟩ := ih (Nat.le_trans hm hM.le) hk
   refine ⟨F', H', wr', hk, hM.trans hM', fun w X σ tmps hI hF => ?_⟩
   unfold wpList
   rw [if_pos (hw w (Ex X σ) σ ⟨tmps, []⟩ fun t _ s hs => hF.get hs)]
   refine .inl ?_
   obtain ⟨d, op, ty, pos, after, guard⟩ := o
   refine wp_of_done (hone w X σ ⟨tmps, []⟩ d ty pos after guard hI hF) fun v w' ⟨σ', hr, hI', hS⟩ => ?_
   have hF' := FRep.putD (a := ⟨tmps, []⟩) (d := d) (hF.step hS (Nat.le_refl _)) hr
   rw [<- hp] at hF'
   have := hrest w' X σ' ((Act.put ⟨tmps, []⟩ d v).tmps) hI' hF'
   have e : Act.put ⟨tmps, []⟩ d v = ⟨(Act.put ⟨tmps, []⟩ d v).tmps, []⟩ := by cases d <;> rfl
   rw [e]
   exact wpList_mono' (fun e a w'' => SPost.from hS.any) l this
  | false =>
   simp only [Bool.false_eq_true, if_false] at hk
   obtain ⟨F1, hk, hp⟩ := putW_sound hk
   obtain ⟨F', H', wr', hk, hM', hrest⟩ := ih hm hk
   refine ⟨F', H', wr', hk, hM', fun w X σ tmps hI hF => ?_⟩
   unfold wpList
   rw [if_neg (by rw [hw w (Ex X σ) σ ⟨tmps, []⟩ fun t _ s hs => hF.get hs]; simp)]
   have hF' := FRep.putD (a := ⟨tmps, []⟩) (d := o.dst) (v := Go.undef) hF .undef
   rw [<- hp] at hF'
   have := hrest w X σ ((Act.put ⟨tmps, []⟩ o.dst Go.undef).tmps) hI hF'
   have e : Act.put ⟨tmps, []⟩ o.dst Go.undef = ⟨(Act.put ⟨tmps, []⟩ o.dst Go.undef).tmps, []⟩ := by cases o.dst <;> rfl
   rw [e]
   exact this
end
end Go.Sx

namespace Go.Sx
section
variable {P : Program} {V : Env}
theorem rnNK_nil {m : Nat} {ok : Nat -> Bool} {b : Nat} {k : Nat -> Prop} (h : rnNK m ok [] b k) : k b /\ b < m /\ ok b = true := by
 rcases bFork_sound h with ⟨_, h⟩ | ⟨hb, h⟩
 ·exact (show False from h).elim
 ·have hlt : b < m := by
   rcases Nat.lt_or_ge b m with h' | h'
   ·exact h'
   ·rw [Nat.ble_eq_true_of_le h'] at hb; simp at hb
  obtain ⟨hok, h⟩ := bChk_sound h
  exact ⟨h, hlt, hok⟩
theorem rn0K_nil {m : Nat} {ok : Nat -> Bool} {s : SV} {k : SV -> Prop} (h : rn0K m ok [] s k) : k s /\ RnOK m ok [] s s := by
 cases s <;> simp only [rn0K] at h
 case ptr b o =>
  obtain ⟨h, hlt, hok⟩ := rnNK_nil h
  refine ⟨h, fun w E E' σ σ' v hm _ hr => ?_⟩
  cases hr with
  | ptr hg => exact .ptr (hm.old _ _ hlt hok hg (by simp))
  | ptrD hg => exact .ptrD (hm.old _ _ hlt hok hg (by simp))
 case ep b i f =>
  obtain ⟨h, hlt, hok⟩ := rnNK_nil h
  refine ⟨h, fun w E E' σ σ' v hm _ hr => ?_⟩
  cases hr with
  | ep hg => exact .ep (hm.old _ _ hlt hok hg (by simp))
  | epD hg => exact .epD (hm.old _ _ hlt hok hg (by simp))
 case sl b =>
  obtain ⟨h, hlt, hok⟩ := rnNK_nil h
  refine ⟨h, fun w E E' σ σ' v hm _ hr => ?_⟩
  cases hr with
  | sl hg => exact .sl (hm.old _ _ hlt hok hg (by simp))
  | slN hg => exact .slN (hm.old _ _ hlt hok hg (by simp))
  | slD hg => exact .slD (hm.old _ _ hlt hok hg (by simp))
 case mp b =>
  obtain ⟨h, hlt, hok⟩ := rnNK_nil h
  refine ⟨h, fun w E E' σ σ' v hm _ hr => ?_⟩
  cases hr with
  | mp hg => exact .mp (hm.old _ _ hlt hok hg (by simp))
  | mpD hg => exact .mpD (hm.old _ _ hlt hok hg (by simp))
 case ss b l n =>
  obtain ⟨h, hlt, hok⟩ := rnNK_nil h
  refine ⟨h, fun w E E' σ σ' v hm _ hr => ?_⟩
  cases hr with
  | ss hg hl ho => exact .ss (hm.old _ _ hlt hok hg (by simp)) hl ho
  | ssN hg => exact .ssN (hm.old _ _ hlt hok hg (by simp))
  | ssD hg => exact .ssD (hm.old _ _ hlt hok hg (by simp))
 case it b =>
  obtain ⟨h, hlt, hok⟩ := rnNK_nil h
  refine ⟨h, fun w E E' σ σ' v hm _ hr => ?_⟩
  cases hr with
  | it hg => exact .it (hm.old _ _ hlt hok hg (by simp))
  | itD hg => exact .itD (hm.old _ _ hlt hok hg (by simp))
 case tl b n =>
  obtain ⟨h, hlt, hok⟩ := rnNK_nil h
  refine ⟨h, fun w E E' σ σ' v hm _ hr => ?_⟩
  cases hr with
  | tl hg h1 h2 => exact .tl (hm.old _ _ hlt hok hg (by simp)) h1 h2
  | tlD hg => exact .tlD (hm.old _ _ hlt hok hg (by simp))
 case tp b n i f =>
  obtain ⟨h, hlt, hok⟩ := rnNK_nil h
  refine ⟨h, fun w E E' σ σ' v hm _ hr => ?_⟩
  cases hr with
  | tp hg => exact .tp (hm.old _ _ hlt hok hg (by simp))
  | tpD hg => exact .tpD (hm.old _ _ hlt hok hg (by simp))
 case gp b a i f =>
  obtain ⟨h, hlt, hok⟩ := rnNK_nil h
  refine ⟨h, fun w E E' σ σ' v hm _ hr => ?_⟩
  cases hr with
  | gp hg => exact .gp (hm.old _ _ hlt hok hg (by simp))
  | gpD hg => exact .gpD (hm.old _ _ hlt hok hg (by simp))
 case any => exact ⟨h, fun _ _ _ _ _ _ _ _ _ => .any⟩
 all_goals first
  | exact h.elim
  | exact ⟨h, .of_free fun w E σ σ' v hr => by (cases hr <;> first | (constructor; done) | (constructor <;> assumption))⟩
theorem rnsK_nil {m : Nat} {ok : Nat -> Bool} {f : SV -> (SV -> Prop) -> Prop} (hf : ∀ {s : SV} {k : SV -> Prop}, f s k -> k s /\ RnOK m ok [] s s) (l : List SV) : ∀ {k : List SV -> Prop}, rnsK f l k -> k l /\ RnL m ok [] l l := by
 induction l with
 | nil => intro k h; exact ⟨h, rfl, by simp⟩
 | cons x l ih =>
  intro k h
  obtain ⟨h, hx⟩ := hf (show f x _ from h)
  obtain ⟨h, hl⟩ := ih h
  refine ⟨h, rfl, fun i s s' hs hs' => ?_⟩
  cases i with
  | zero => simp at hs hs'; subst hs; subst hs'; exact hx
  | succ i => exact hl.2 i s s' (by simpa using hs) (by simpa using hs')
theorem rnK_nil {m : Nat} {ok : Nat -> Bool} : ∀ (n : Nat) {s : SV} {k : SV -> Prop}, rnK m ok [] n s k -> k s /\ RnOK m ok [] s s := by
 intro n
 induction n with
 | zero => intro s k h; exact rn0K_nil h
 | succ n ih =>
  intro s k h
  cases s with
  | agg cs => obtain ⟨h, hl⟩ := rnsK_nil ih cs (show rnsK (rnK m ok [] n) cs _ from h); exact ⟨h, hl.agg⟩
  | tup cs => obtain ⟨h, hl⟩ := rnsK_nil ih cs (show rnsK (rnK m ok [] n) cs _ from h); exact ⟨h, hl.tup⟩
  | fn f cs => obtain ⟨h, hl⟩ := rnsK_nil ih cs (show rnsK (rnK m ok [] n) cs _ from h); exact ⟨h, hl.fn⟩
  | mfn f cs => obtain ⟨h, hl⟩ := rnsK_nil ih cs (show rnsK (rnK m ok [] n) cs _ from h); exact ⟨h, hl.mfn⟩
  | ifc T s => obtain ⟨h, hl⟩ := ih (show rnK m ok [] n s _ from h); exact ⟨h, hl.ifc⟩
  | _ => exact rn0K_nil h
theorem rnRowsK_nil {m : Nat} {ok : Nat -> Bool} (l : List (List SV)) : ∀ {k : List (List SV) -> Prop}, rnRowsK m ok [] l k -> k l /\ ∀ e ∈ l, RnL m ok [] e e := by
 induction l with
 | nil => intro k h; exact ⟨h, by simp⟩
 | cons x l ih =>
  intro k h
  obtain ⟨h, hx⟩ := rnsK_nil (fun h => rnK_nil 2 h) x (show rnsK (rnK m ok [] 2) x _ from h)
  obtain ⟨h, hl⟩ := ih h
  refine ⟨h, fun e he => ?_⟩
  rcases List.mem_cons.1 he with rfl | he
  ·exact hx
  ·exact hl e he
theorem rnEntsK_nil {m : Nat} {ok : Nat -> Bool} (l : List ME) : ∀ {k : List ME -> Prop}, rnEntsK m ok [] l k -> k l /\ ∀ e ∈ l, RnOK m ok [] e.1 e.1 /\ RnOK m ok [] e.2.1 e.2.1 := by
 induction l with
 | nil => intro k h; exact ⟨h, by simp⟩
 | cons x l ih =>
  intro k h
  obtain ⟨h, hx⟩ := rnK_nil 2 (show rnK m ok [] 2 x.1 (fun a => rnK m ok [] 2 x.2.1 fun b => rnEntsK m ok [] l fun r => k ((a, b, x.2.2) :: r)) from h)
  obtain ⟨h, hy⟩ := rnK_nil 2 h
  obtain ⟨h, hl⟩ := ih h
  refine ⟨h, fun e he => ?_⟩
  rcases List.mem_cons.1 he with rfl | he
  ·exact ⟨hx, hy⟩
  ·exact hl e he
theorem rnBlkK_nil {m : Nat} {ok : Nat -> Bool} {b : Blk} {k : Blk -> Prop} (h : rnBlkK m ok [] b k) : k b /\ RnB m ok [] b b := by
 cases b with
 | fix t cs =>
  obtain ⟨h, hl⟩ := rnsK_nil (fun h => rnK_nil 2 h) cs (show rnsK (rnK m ok [] 2) cs _ from h)
  refine ⟨h, fun w E E' σ σ' e hm hE hb => ?_⟩
  cases e <;> simp only [BlkOK] at hb ⊢
  obtain ⟨vs, h1, h2, h3⟩ := hb
  exact ⟨vs, h1, h2, fun i s v hs hv => ⟨hl.2 i s s hs hs w E E' σ σ' v hm hE (h3 i s v hs hv).1, (h3 i s v hs hv).2⟩⟩
 | row t z es =>
  refine ⟨h, fun w E E' σ σ' e hm hE hb => ?_⟩
  cases e <;> simp only [BlkOK] at hb ⊢
  case row =>
   obtain ⟨h1, h2, h3, h4, vs, h5, h6, h7⟩ := hb
   exact ⟨h1, h2, h3, h4, vs, h5, h6, fun i e he => ⟨(h7 i e he).1, fun j s hs => by obtain ⟨v, a, b, c⟩ := (h7 i e he).2 j s hs; exact ⟨v, a, b.le hE [], c⟩⟩⟩
  case rownil => exact hb
 | prow t z es =>
  obtain ⟨h, hl⟩ := rnRowsK_nil es (show rnRowsK m ok [] es _ from h)
  refine ⟨h, fun w E E' σ σ' e hm hE hb => ?_⟩
  cases e <;> simp only [BlkOK] at hb ⊢
  case row =>
   obtain ⟨h1, h2, h3, h4, vs, h5, h6, h7⟩ := hb
   refine ⟨h1, h2, h3, h4, vs, h5, h6, fun i e he => ⟨(h7 i e he).1, fun j s hs => ?_⟩⟩
   obtain ⟨v, a, b, c⟩ := (h7 i e he).2 j s hs
   exact ⟨v, a, (hl e (List.mem_of_getElem? he)).2 j s s hs hs w E E' σ σ' v hm hE b, c⟩
  case rownil => exact hb
 | mapB es c =>
  refine ⟨h, fun w E E' σ σ' e hm hE hb => ?_⟩
  cases e <;> simp only [BlkOK] at hb ⊢
  obtain ⟨ms, h1, h2, h3⟩ := hb
  exact ⟨ms, h1, h2, fun i e m he hm' => ⟨(h3 i e m he hm').1.le hE [], (h3 i e m he hm').2.1.le hE [], (h3 i e m he hm').2.2⟩⟩
 | pmap es c =>
  obtain ⟨h, hl⟩ := rnEntsK_nil es (show rnEntsK m ok [] es _ from h)
  refine ⟨h, fun w E E' σ σ' e hm hE hb => ?_⟩
  cases e <;> simp only [BlkOK] at hb ⊢
  obtain ⟨ms, h1, h2, h3⟩ := hb
  refine ⟨ms, h1, h2, fun i e mm he hm' => ?_⟩
  obtain ⟨a1, a2, a3⟩ := h3 i e mm he hm'
  obtain ⟨b1, b2⟩ := hl e (List.mem_of_getElem? he)
  exact ⟨b1 w E E' σ σ' _ hm hE a1, b2 w E E' σ σ' _ hm hE a2, a3⟩
 | mit mb s l st =>
  cases mb with
  | none =>
   refine ⟨h, fun w E E' σ σ' e hm hE hb => ?_⟩
   cases e <;> simp only [BlkOK] at hb ⊢
   exact hb
  | some b =>
   obtain ⟨h, hlt, hok⟩ := rnNK_nil (show rnNK m ok [] b _ from h)
   refine ⟨h, fun w E E' σ σ' e hm hE hb => ?_⟩
   cases e <;> simp only [BlkOK] at hb ⊢
   obtain ⟨r, h1, h2⟩ := hb
   refine ⟨r, h1, ?_⟩
   rcases h2 with ⟨g', a, b⟩ | h2
   ·exact .inl ⟨g', hm.old _ _ hlt hok a (by simp), b⟩
   ·exact .inr (hm.old _ _ hlt hok h2 (by simp))
 | sit s p =>
  refine ⟨h, fun w E E' σ σ' e hm hE hb => ?_⟩
  cases e <;> simp only [BlkOK] at hb ⊢
  exact hb
 | gap t z N lo hi pre es post =>
  refine ⟨h, fun w E E' σ σ' e hm hE hb => ?_⟩
  cases e <;> simp only [BlkOK] at hb ⊢
  case rownil => exact hb
  case row =>
   obtain ⟨g1, g2, h1, h2, h3, h4, vs, h5, h6, h7⟩ := hb
   exact ⟨g1, g2, h1, h2, h3, h4, vs, h5, h6, fun i e he => ⟨(h7 i e he).1, fun j s hs => by obtain ⟨v, a, b, c⟩ := (h7 i e he).2 j s hs; exact ⟨v, a, b.le hE [], c⟩⟩⟩
 | gmap pre es =>
  refine ⟨h, fun w E E' σ σ' e hm hE hb => ?_⟩
  cases e <;> simp only [BlkOK] at hb ⊢
  obtain ⟨ms, ck, h1, h2, h3⟩ := hb
  exact ⟨ms, ck, h1, h2, fun i e m he hm' => ⟨(h3 i e m he hm').1.le hE [], (h3 i e m he hm').2.le hE []⟩⟩
 | tail t z es =>
  obtain ⟨h, hl⟩ := rnRowsK_nil es (show rnRowsK m ok [] es _ from h)
  refine ⟨h, fun w E E' σ σ' e hm hE hb => ?_⟩
  cases e <;> simp only [BlkOK] at hb ⊢
  case row =>
   obtain ⟨h1, h2, h3, h4, vs, h5, h6, h7⟩ := hb
   refine ⟨h1, h2, h3, h4, vs, h5, h6, fun i e he => ⟨(h7 i e he).1, fun j s hs => ?_⟩⟩
   obtain ⟨v, a, b, c⟩ := (h7 i e he).2 j s hs
   exact ⟨v, a, (hl e (List.mem_of_getElem? he)).2 j s s hs hs w E E' σ σ' v hm hE b, c⟩
 | glob g0 t cs =>
  refine ⟨h, fun w E E' σ σ' e hm hE hb => ?_⟩
  cases e <;> simp only [BlkOK] at hb ⊢
  obtain ⟨h0, vs, h1, h2, h3⟩ := hb
  exact ⟨h0, vs, h1, h2, fun i s v hs hv => ⟨(h3 i s v hs hv).1.le hE [], (h3 i s v hs hv).2⟩⟩
 | dead =>
  refine ⟨h, fun w E E' σ σ' e hm hE hb => ?_⟩
  cases e <;> simp only [BlkOK] at hb ⊢
 | fresh =>
  refine ⟨h, fun w E E' σ σ' e hm hE hb => ?_⟩
  cases e <;> simp only [BlkOK] at hb ⊢
theorem rep_get {α : Type} {x : α} {j : Nat} (hj : j < 16) : (R16.rep x).toL[j]? = some x := by
 rcases (show j = 0 ∨ j = 1 ∨ j = 2 ∨ j = 3 ∨ j = 4 ∨ j = 5 ∨ j = 6 ∨ j = 7 ∨ j = 8 ∨ j = 9 ∨ j = 10 ∨ j = 11 ∨ j = 12 ∨ j = 13 ∨ j = 14 ∨ j = 15 by omega) with rfl | rfl | rfl | rfl | rfl | rfl | rfl | rfl | rfl | rfl | rfl | rfl | rfl | rfl | rfl | rfl <;> rfl
theorem dead_get {i : Nat} (h : i < 4096) : at3 deadW i = some .dead := by
 unfold at3 deadW
 rw [rep_get (by omega)]
 show at2 (R16.rep (R16.rep Blk.dead)) (i % 256) = _
 unfold at2
 rw [rep_get (by omega)]
 exact rep_get (by omega)
theorem showK_sound {h : Hp} (acc : List Nat) : ∀ {D : HW} {k : HW -> Prop}, showK (nthK h) acc D k -> ∃ D', k D' /\ D'.view.length = D.view.length /\ ∀ j, j < D.view.length -> D'.view[j]? = if j ∈ acc then h[j]? else D.view[j]? := by
 induction acc with
 | nil => intro D k hk; exact ⟨D, hk, rfl, fun j _ => by simp⟩
 | cons b acc ih =>
  intro D k hk
  obtain ⟨x, hx, hk⟩ := nthK_sound (show nthK h b _ from hk)
  obtain ⟨D1, hk, hlt, hv⟩ := setH_sound hk
  obtain ⟨D', hk, hl, hg⟩ := ih hk
  refine ⟨D', hk, by rw [hl, hv]; simp, fun j hj => ?_⟩
  rw [hg j (by rw [hv]; simpa using hj), hv, List.getElem?_set]
  by_cases hja : j ∈ acc
  ·rw [if_pos hja, if_pos (List.mem_cons_of_mem _ hja)]
  ·rw [if_neg hja]
   by_cases hb : b = j
   ·subst hb
    rw [if_pos rfl, if_pos hj, if_pos (by simp), hx]
   ·rw [if_neg hb, if_neg (by simp [hja, Ne.symm hb])]
theorem maskW_sound {H : HW} {acc : List Nat} {k : HW -> Prop} (hk : maskW H acc k) : ∃ D, k D /\ D.view.length = H.view.length /\ ∀ j, j < H.view.length -> D.view[j]? = if j ∈ acc then H.view[j]? else some .dead := by
 have hk := lenH_sound (k := fun n => showK (getH H) acc ⟨n, deadW⟩ k) hk
 rw [getH_eq] at hk
 obtain ⟨D, hk, hl, hg⟩ := showK_sound acc hk
 have hle : H.view.length <= 4096 := by
  have : H.view.length = min H.n 4096 := vw_len
  omega
 have h0 : (HW.view ⟨H.view.length, deadW⟩).length = H.view.length := by
  have : (HW.view ⟨H.view.length, deadW⟩).length = min H.view.length 4096 := vw_len
  omega
 refine ⟨D, hk, by rw [hl, h0], fun j hj => ?_⟩
 rw [hg j (by rw [h0]; exact hj)]
 by_cases hja : j ∈ acc
 ·rw [if_pos hja, if_pos hja]
 ·rw [if_neg hja, if_neg hja]
  have : (HW.view ⟨H.view.length, deadW⟩)[j]? = some ((at3 deadW j).getD .dead) := vw_get (show j < min H.view.length 4096 by omega)
  rw [this, dead_get (by omega)]; rfl
theorem freshK_sound {h : Hp} {ok : Nat -> Bool} (al : List (Nat × Nat)) : ∀ {k : List Nat -> Prop}, freshK (nthK h) ok al k -> ∃ js, k js /\ (∀ p ∈ al, p.2 ∈ js) /\ ∀ p ∈ al, h[p.2]? = some .fresh /\ ok p.2 = false := by
 induction al with
 | nil => intro k hk; exact ⟨[], hk, by simp, by simp⟩
 | cons p al ih =>
  intro k hk
  obtain ⟨b, hb, hk⟩ := nthK_sound (show nthK h p.2 _ from hk)
  cases b with
  | fresh =>
   rcases bFork_sound hk with ⟨_, hk⟩ | ⟨ho, hk⟩
   ·exact hk.elim
   ·obtain ⟨js, hk, h1, h2⟩ := ih (k := fun l => k (p.2 :: l)) hk
    refine ⟨_, hk, fun q hq => ?_, fun q hq => ?_⟩
    ·rcases List.mem_cons.1 hq with rfl | hq
     ·simp
     ·exact List.mem_cons_of_mem _ (h1 q hq)
    ·rcases List.mem_cons.1 hq with rfl | hq
     ·exact ⟨hb, ho⟩
     ·exact h2 q hq
  | _ => exact hk.elim
theorem wsOldK_sound {m : Nat} {ok : Nat -> Bool} {al : List (Nat × Nat)} {h' : Hp} (wr : List Nat) : ∀ {k : Ws -> Prop}, wsOldK m ok al (nthK h') wr k -> ∃ w1, k w1 /\
  (∀ p ∈ w1, p.1 < m /\ ok p.1 = true /\ (∃ b, h'[p.1]? = some b /\ RnB m ok al b p.2) /\ p.1 ∈ wr) /\ ∀ i ∈ wr, ∃ p ∈ w1, p.1 = i := by
 induction wr with
 | nil => intro k hk; exact ⟨[], hk, by simp, by simp⟩
 | cons i wr ih =>
  intro k hk
  rcases bFork_sound (show bFork (Nat.ble m i) False _ from hk) with ⟨_, hk⟩ | ⟨hb, hk⟩
  ·exact hk.elim
  ·have hlt : i < m := by
    rcases Nat.lt_or_ge i m with h' | h'
    ·exact h'
    ·rw [Nat.ble_eq_true_of_le h'] at hb; simp at hb
   obtain ⟨hok, hk⟩ := bChk_sound hk
   obtain ⟨b, hb, hk⟩ := nthK_sound hk
   obtain ⟨b', hk, hr, _⟩ := rnBlkK_sound hk
   obtain ⟨w1, hk, h1, h2⟩ := ih hk
   refine ⟨_, hk, fun p hp => ?_, fun j hj => ?_⟩
   ·rcases List.mem_cons.1 hp with rfl | hp
    ·exact ⟨hlt, hok, ⟨b, hb, hr⟩, List.mem_cons_self ..⟩
    ·obtain ⟨a1, a2, a3, a4⟩ := h1 p hp; exact ⟨a1, a2, a3, List.mem_cons_of_mem _ a4⟩
   ·rcases List.mem_cons.1 hj with rfl | hj
    ·exact ⟨_, List.mem_cons_self .., rfl⟩
    ·obtain ⟨p, hp, e⟩ := h2 j hj
     exact ⟨p, List.mem_cons_of_mem _ hp, e⟩
theorem wsNewK_sound {m : Nat} {ok : Nat -> Bool} {al : List (Nat × Nat)} {h' : Hp} (l : List (Nat × Nat)) : ∀ {k : Ws -> Prop}, wsNewK m ok al (nthK h') l k -> ∃ w2, k w2 /\
  (∀ p ∈ w2, ∃ a, (a, p.1) ∈ l /\ ∃ b, h'[a]? = some b /\ RnB m ok al b p.2) /\ ∀ q ∈ l, (∃ p ∈ w2, p.1 = q.2) /\ ∃ b, h'[q.1]? = some b := by
 induction l with
 | nil => intro k hk; exact ⟨[], hk, by simp, by simp⟩
 | cons q l ih =>
  intro k hk
  obtain ⟨b, hb, hk⟩ := nthK_sound (show nthK h' q.1 _ from hk)
  obtain ⟨b', hk, hr, _⟩ := rnBlkK_sound hk
  obtain ⟨w2, hk, h1, h2⟩ := ih hk
  refine ⟨_, hk, fun p hp => ?_, fun r hr' => ?_⟩
  ·rcases List.mem_cons.1 hp with rfl | hp
   ·exact ⟨q.1, by simp, b, hb, hr⟩
   ·obtain ⟨a, ha, c⟩ := h1 p hp
    exact ⟨a, List.mem_cons_of_mem _ ha, c⟩
  ·rcases List.mem_cons.1 hr' with rfl | hr'
   ·exact ⟨⟨_, List.mem_cons_self .., rfl⟩, b, hb⟩
   ·obtain ⟨⟨p, hp, e⟩, c⟩ := h2 r hr'
    exact ⟨⟨p, List.mem_cons_of_mem _ hp, e⟩, c⟩
theorem sameK_sound {m : Nat} {ok : Nat -> Bool} {h' : Hp} {wr : List Nat} (acc : List Nat) : ∀ {k : Prop}, sameK m ok (nthK h') wr acc k -> k /\ ∀ i ∈ acc, i ∉ wr -> ∃ b, h'[i]? = some b /\ RnB m ok [] b b := by
 induction acc with
 | nil => intro k hk; exact ⟨hk, by simp⟩
 | cons i acc ih =>
  intro k hk
  have hk : Bool.rec (motive := fun _ => Prop) (nthK h' i fun b => rnBlkK m ok [] b fun _ => sameK m ok (nthK h') wr acc k) (sameK m ok (nthK h') wr acc k) (memB i wr) := hk
  cases hb : memB i wr with
  | true =>
   rw [hb] at hk
   obtain ⟨hk, h1⟩ := ih hk
   refine ⟨hk, fun j hj hn => ?_⟩
   rcases List.mem_cons.1 hj with rfl | hj
   ·exact absurd (memB_spec wr hb) hn
   ·exact h1 j hj hn
  | false =>
   rw [hb] at hk
   obtain ⟨b, hbb, hk⟩ := nthK_sound (show nthK h' i _ from hk)
   obtain ⟨hk, hr⟩ := rnBlkK_nil hk
   obtain ⟨hk, h1⟩ := ih hk
   refine ⟨hk, fun j hj hn => ?_⟩
   rcases List.mem_cons.1 hj with rfl | hj
   ·exact ⟨b, hbb, hr⟩
   ·exact h1 j hj hn
theorem upd_in (ws : Ws) : ∀ {h : Hp} {i : Nat}, (∃ p ∈ ws, p.1 = i) -> i < h.length -> ∃ p ∈ ws, p.1 = i /\ (upd ws h)[i]? = some p.2 := by
 induction ws with
 | nil => intro h i hp; simp at hp
 | cons q ws ih =>
  intro h i hp hlt
  by_cases hw : ∃ p ∈ ws, p.1 = i
  ·obtain ⟨p, hp, e, hg⟩ := ih (h := h.set q.1 q.2) hw (by simpa using hlt)
   exact ⟨p, List.mem_cons_of_mem _ hp, e, hg⟩
  ·have he : q.1 = i := by
    obtain ⟨p, hp, e⟩ := hp
    rcases List.mem_cons.1 hp with rfl | hp
    ·exact e
    ·exact absurd ⟨p, hp, e⟩ hw
   refine ⟨q, List.mem_cons_self .., he, ?_⟩
   have : (upd ws (h.set q.1 q.2))[i]? = (h.set q.1 q.2)[i]? := upd_get ws fun p hp e => hw ⟨p, hp, e⟩
   show (upd ws (h.set q.1 q.2))[i]? = _
   rw [this, he, List.getElem?_set, if_pos rfl, if_pos hlt]
def maskSg (ok : Nat -> Bool) (σ : Sg) : Sg := σ.mapIdx fun i e => if ok i = true then e else .dead
theorem maskSg_get {ok : Nat -> Bool} {σ : Sg} {i : Nat} {e : Ent} (h : (maskSg ok σ)[i]? = some e) : (ok i = true /\ σ[i]? = some e) ∨ (ok i = false /\ e = .dead) := by
 unfold maskSg at h
 rw [List.getElem?_mapIdx] at h
 cases hi : σ[i]? with
 | none => rw [hi] at h; simp at h
 | some e0 =>
  rw [hi] at h
  simp only [Option.map_some, Option.some.injEq] at h
  cases ho : ok i with
  | true => rw [ho] at h; simp at h; exact .inl ⟨rfl, by rw [h]⟩
  | false => rw [ho] at h; simp at h; exact .inr ⟨rfl, h.symm⟩
theorem maskSg_of {ok : Nat -> Bool} {σ : Sg} {i : Nat} {e : Ent} (h : σ[i]? = some e) : (maskSg ok σ)[i]? = some (if ok i = true then e else .dead) := by
 unfold maskSg
 rw [List.getElem?_mapIdx, h]; rfl
theorem maskSg_len {ok : Nat -> Bool} {σ : Sg} : (maskSg ok σ).length = σ.length := by simp [maskSg]
def maskX (ok : Nat -> Bool) (X : Nat -> Prop) (σ : Sg) : Nat -> Prop := fun g => Ex X σ g /\ ¬ Owned (maskSg ok σ) g
theorem mask_own {ok : Nat -> Bool} {σ : Sg} {g : Nat} (h : Owned (maskSg ok σ) g) : Owned σ g := by
 obtain ⟨i, e, he, hg⟩ := h
 rcases maskSg_get he with ⟨_, h⟩ | ⟨_, rfl⟩
 ·exact ⟨i, e, h, hg⟩
 ·simp [Ent.blk] at hg
theorem mask_ex {ok : Nat -> Bool} {X : Nat -> Prop} {σ : Sg} (g : Nat) : Ex (maskX ok X σ) (maskSg ok σ) g ↔ Ex X σ g := by
 constructor
 ·rintro (h | h)
  ·exact h.1
  ·exact .inr (mask_own h)
 ·intro h
  by_cases ho : Owned (maskSg ok σ) g
  ·exact .inr ho
  ·exact .inl ⟨h, ho⟩
theorem mask_keep {ok : Nat -> Bool} {σ : Sg} (i : Nat) (e : Ent) (h : σ[i]? = some e) (_ : e ≠ .fresh) : (maskSg ok σ)[i]? = some e ∨ (maskSg ok σ)[i]? = some .dead := by
 rw [maskSg_of h]
 cases ok i <;> simp
theorem mask_inv {w : World} {X : Nat -> Prop} {σ : Sg} {h2 hm : Hp} {ok : Nat -> Bool} (hI : Inv w X σ h2) (hl : hm.length = h2.length) (hmk : ∀ j, j < h2.length -> hm[j]? = if ok j = true then h2[j]? else some .dead) :
  Inv w (maskX ok X σ) (maskSg ok σ) hm := by
 refine ⟨by rw [maskSg_len, hI.len, hl], fun i b e hb he => ?_, fun i e g he hg => ?_, fun i j e e' g he he' hg hg' => ?_, fun g hx => hx.2, fun g hx => ?_⟩
 ·have hi : i < h2.length := by rw [<- hl]; exact (List.getElem?_eq_some_iff.1 hb).1
  rw [hmk i hi] at hb
  rcases maskSg_get he with ⟨ho, h⟩ | ⟨ho, rfl⟩
  ·rw [if_pos ho] at hb
   exact (hI.ok i b e hb h).le (fun g hg => (mask_ex g).1 hg) mask_keep
  ·rw [ho] at hb; simp at hb; subst hb; trivial
 ·rcases maskSg_get he with ⟨_, h⟩ | ⟨_, rfl⟩
  ·exact hI.lt i e g h hg
  ·simp [Ent.blk] at hg
 ·rcases maskSg_get he with ⟨_, h⟩ | ⟨_, rfl⟩
  ·rcases maskSg_get he' with ⟨_, h'⟩ | ⟨_, rfl⟩
   ·exact hI.inj i j e e' g h h' hg hg'
   ·simp [Ent.blk] at hg'
  ·simp [Ent.blk] at hg
 ·rcases hx.1 with hx | ⟨i, e, he, hg⟩
  ·exact hI.xlt g hx
  ·exact hI.lt i e g he hg
def backSg (ok : Nat -> Bool) (al : List (Nat × Nat)) (σ σ' : Sg) : Sg :=
 σ.mapIdx fun i e => if ok i = true then σ'.getD i .dead else match al.find? (fun p => p.2 == i) with | some p => σ'.getD p.1 .dead | none => e
theorem backSg_len {ok : Nat -> Bool} {al : List (Nat × Nat)} {σ σ' : Sg} : (backSg ok al σ σ').length = σ.length := by simp [backSg]
theorem tailD_sound {f : FuncId} {l : List SV} {h hm h' : Hp} {nid : Nat} {ok : Nat -> Bool} {rds wr : List Nat} {s : SV} {K : Kop} (hmem : ∀ i, ok i = true ↔ i ∈ rds) (hml : hm.length = h.length)
  (hmk : ∀ j, j < h.length -> hm[j]? = if ok j = true then h[j]? else some .dead) (hrd1 : ∀ j, j < h.length -> ok j = true -> j ∈ rds) (hle : h.length <= h'.length) (hsm : ∀ i, i < h.length -> i ∉ wr -> h'[i]? = hm[i]?)
  (hdone : ∀ (w : World) (X : Nat -> Prop) (σ : Sg) (vs : List Value), Inv w X σ hm -> RepL w (Ex X σ) σ l vs -> DoneS P (callFunc f vs.toArray) w fun v w' => ∃ σ', Rep w' (Ex X σ') σ' s v /\ Inv w' X σ' h' /\ Step h.length w σ w' σ')
  (hk : wrfK (nthK h') wr [] fun todo => markW (nthK h') h.length 4096 (rfS 3 s todo) 0 [] fun new _ => numK h.length new nid [] fun al => freshK (nthK h) ok al fun js => rnK h.length ok al 3 s fun s' =>
   sameK h.length ok (nthK h') wr rds (wsOldK h.length ok al (nthK h') wr fun w1 => wsNewK h.length ok al (nthK h') al fun w2 => appK w1 w2 fun ws => appK js rds fun rds' => K s' ws rds')) :
  ∃ s ws rds, K s ws rds /\ (∀ p ∈ ws, p.1 ∈ rds) /\ ∀ (w : World) (X : Nat -> Prop) (σ : Sg) (h2 : Hp) (vs : List Value), Inv w X σ h2 -> h2.length = h.length -> RepL w (Ex X σ) σ l vs -> (∀ i ∈ rds, h2[i]? = h[i]?) ->
   OpRes P (callFunc f vs.toArray) w X σ h2 s ws := by
 obtain ⟨todo, hk⟩ := wrfK_sound wr hk
 obtain ⟨new, _, hk, _, _⟩ := markW_sound 4096 hk bits_nil (by simp)
 obtain ⟨al, hk, hal, hinj⟩ := numK_sound new hk
 obtain ⟨js, hk, hjs, hfr⟩ := freshK_sound al hk
 obtain ⟨s', hk, hss⟩ := rnK_sound 3 hk
 obtain ⟨hk, hsame⟩ := sameK_sound rds hk
 obtain ⟨w1, hk, hw1, hw1c⟩ := wsOldK_sound wr hk
 obtain ⟨w2, hk, hw2, hw2c⟩ := wsNewK_sound al hk
 have hk := appK_sound (appK_sound hk)
 -- a new number tells its old one
 have hone : ∀ a a' j, (a, j) ∈ al -> (a', j) ∈ al -> a = a' := fun a a' j h1 h2 => by
  obtain ⟨i1, e1⟩ := List.mem_iff_getElem?.1 h1
  obtain ⟨i2, e2⟩ := List.mem_iff_getElem?.1 h2
  have a1 := (hal i1 _ e1).2.1
  have a2 := (hal i2 _ e2).2.1
  simp only at a1 a2
  have : i1 = i2 := by omega
  subst this
  rw [e1] at e2
  simp at e2
  exact e2
 have hjlt : ∀ p ∈ al, p.2 < h.length := fun p hp => (List.getElem?_eq_some_iff.1 (hfr p hp).1).1
 refine ⟨s', w1 ++ w2, js ++ rds, hk, fun p hp => ?_, fun w X σ h2 vs hI hlen hr hag => ?_⟩
 ·rcases List.mem_append.1 hp with hp | hp
  ·obtain ⟨a1, a2, _⟩ := hw1 p hp
   exact List.mem_append_right _ (hrd1 p.1 a1 a2)
  ·obtain ⟨a, ha, _⟩ := hw2 p hp
   exact List.mem_append_left _ (hjs _ ha)
 ·have hσl : σ.length = h.length := by rw [hI.len, hlen]
  have hmk2 : ∀ j, j < h2.length -> hm[j]? = if ok j = true then h2[j]? else some .dead := fun j hj => by
   rw [hmk j (by omega)]
   cases ho : ok j with
   | true => simp only [if_true]; exact (hag j (List.mem_append_right _ (hrd1 j (by omega) ho))).symm
   | false => rfl
  have hIm := mask_inv (ok := ok) hI (by rw [hml, hlen]) hmk2
  have hrm : RepL w (Ex (maskX ok X σ) (maskSg ok σ)) (maskSg ok σ) l vs := ⟨hr.1, fun i s v hs hv =>
   (hr.2 i s v hs hv).mono _ (fun _ _ _ => rfl) (Nat.le_refl _) (fun g _ hn h => hn ((mask_ex g).1 h)) mask_keep⟩
  unfold OpRes
  refine (hdone w _ _ vs hIm hrm).mono fun v w' ⟨σ', hrep, hI', hS⟩ => ?_
  have hlt' : ∀ i, i < h.length -> i < σ'.length := fun i hi => by
   rw [hI'.len]
   have := hle
   omega
  have hfresh : ∀ p ∈ al, σ[p.2]? = some .fresh := fun p hp => by
   refine fresh_of hI ?_
   rw [hag p.2 (List.mem_append_left _ (hjs p hp))]
   exact (hfr p hp).1
  -- the new entries
  have hget : ∀ (i : Nat) (e : Ent), (backSg ok al σ σ')[i]? = some e -> (ok i = true /\ σ'[i]? = some e) ∨ (ok i = false /\ ∃ a, (a, i) ∈ al /\ σ'[a]? = some e) ∨ (ok i = false /\ (∀ a, (a, i) ∉ al) /\ σ[i]? = some e) := fun i e he => by
   unfold backSg at he
   rw [List.getElem?_mapIdx] at he
   cases hi : σ[i]? with
   | none => rw [hi] at he; simp at he
   | some e0 =>
    have hil : i < h.length := by rw [<- hσl]; exact (List.getElem?_eq_some_iff.1 hi).1
    rw [hi] at he
    simp only [Option.map_some, Option.some.injEq] at he
    cases ho : ok i with
    | true =>
     rw [ho] at he
     simp only [if_true, List.getD, List.getElem?_eq_getElem (hlt' i hil), Option.getD_some] at he
     exact .inl ⟨rfl, by rw [<- he]; exact List.getElem?_eq_getElem _⟩
    | false =>
     rw [ho] at he
     simp only [Bool.false_eq_true, if_false] at he
     cases hfi : al.find? (fun p => p.2 == i) with
     | some p =>
      rw [hfi] at he
      have hp := List.mem_of_find?_eq_some hfi
      have hpi : p.2 = i := by have := List.find?_some hfi; simpa using this
      obtain ⟨b, hb'⟩ := (hw2c p hp).2
      have hpl : p.1 < σ'.length := by rw [hI'.len]; exact (List.getElem?_eq_some_iff.1 hb').1
      simp only [List.getD, List.getElem?_eq_getElem hpl, Option.getD_some] at he
      exact .inr (.inl ⟨rfl, p.1, by rw [<- hpi]; exact hp, by rw [<- he]; exact List.getElem?_eq_getElem _⟩)
     | none =>
      rw [hfi] at he
      simp only at he
      refine .inr (.inr ⟨rfl, fun a ha => ?_, by rw [he]⟩)
      have := List.find?_eq_none.1 hfi _ ha
      simp at this
  have hof : ∀ (i : Nat) (e : Ent), i < h.length -> ok i = true -> σ'[i]? = some e -> (backSg ok al σ σ')[i]? = some e := fun i e hi ho he => by
   unfold backSg
   rw [List.getElem?_mapIdx, List.getElem?_eq_getElem (by omega)]
   simp [ho, List.getD, he]
  have hofn : ∀ (a i : Nat) (e : Ent), (a, i) ∈ al -> σ'[a]? = some e -> (backSg ok al σ σ')[i]? = some e := fun a i e ha he => by
   have hi := hjlt _ ha
   unfold backSg
   rw [List.getElem?_mapIdx, List.getElem?_eq_getElem (by simp only at hi; omega)]
   have ho := (hfr _ ha).2
   simp only at ho
   cases hfi : al.find? (fun p => p.2 == i) with
   | none =>
    have := List.find?_eq_none.1 hfi _ ha
    simp at this
   | some p =>
    have hp := List.mem_of_find?_eq_some hfi
    have hpi : p.2 = i := by have := List.find?_some hfi; simpa using this
    have := hone p.1 a i (by rw [<- hpi]; exact hp) ha
    simp [ho, List.getD, this, he]
  have hoff : ∀ (i : Nat) (e : Ent), ok i = false -> (∀ a, (a, i) ∉ al) -> σ[i]? = some e -> (backSg ok al σ σ')[i]? = some e := fun i e ho hno he => by
   unfold backSg
   rw [List.getElem?_mapIdx, he]
   have hfi : al.find? (fun p => p.2 == i) = none := List.find?_eq_none.2 fun p hp hpi => hno p.1 (by
    have : p.2 = i := by simpa using hpi
    rw [<- this]; exact hp)
   simp [ho, hfi]
  have hti : TieN h.length ok al σ' (backSg ok al σ σ') := ⟨fun i e hi ho he _ => hof i e hi ho he, fun a j e ha he => hofn a j e ha he⟩
  have hXm : ∀ g, X g -> maskX ok X σ g := fun g hx => ⟨.inl hx, fun ho => hI.dis g hx (mask_own ho)⟩
  -- what the caller owns and did not show
  have hXo : ∀ (i : Nat) (e : Ent) (g : Nat), ok i = false -> σ[i]? = some e -> e.blk = some g -> maskX ok X σ g := fun i e g ho he hg => by
   refine ⟨.inr ⟨i, e, he, hg⟩, fun ⟨j, e', he', hg'⟩ => ?_⟩
   rcases maskSg_get he' with ⟨ho', h'⟩ | ⟨_, rfl⟩
   ·have := hI.inj i j e e' g he h' hg hg'
    subst this
    rw [ho] at ho'; simp at ho'
   ·simp [Ent.blk] at hg'
  have hE : ∀ g, Ex X (backSg ok al σ σ') g -> Ex (maskX ok X σ) σ' g := by
   rintro g (hx | ⟨i, e, he, hg⟩)
   ·exact .inl (hXm g hx)
   ·rcases hget i e he with ⟨_, h1⟩ | ⟨_, a, _, h1⟩ | ⟨ho, _, h1⟩
    ·exact .inr ⟨i, e, h1, hg⟩
    ·exact .inr ⟨a, e, h1, hg⟩
    ·exact .inl (hXo i e g ho h1 hg)
  have hS' : Step σ.length w σ w' (backSg ok al σ σ') := by
   refine ⟨hS.os, hS.tape, hS.output, hS.size, fun g hg ho => hS.frame g hg fun h => ho (mask_own h), fun g ⟨i, e, he, hg⟩ hlt => ?_, fun i e hi he hf => ?_⟩
   ·rcases hget i e he with ⟨_, h1⟩ | ⟨_, a, _, h1⟩ | ⟨_, _, h1⟩
    ·exact mask_own (hS.blks g ⟨i, e, h1, hg⟩ hlt)
    ·exact mask_own (hS.blks g ⟨a, e, h1, hg⟩ hlt)
    ·exact ⟨i, e, h1, hg⟩
   ·have hil : i < h.length := by omega
    cases ho : ok i with
    | true =>
     have := maskSg_of (ok := ok) he
     rw [if_pos ho] at this
     exact (hS.ents i e hil this hf).imp (hof i e hil ho) (hof i .dead hil ho)
    | false =>
     by_cases ha : ∃ a, (a, i) ∈ al
     ·obtain ⟨a, ha⟩ := ha
      have := hfresh _ ha
      simp only at this
      rw [he] at this
      simp at this
      exact absurd this hf
     ·exact .inl (hoff i e ho (fun a h => ha ⟨a, h⟩) he)
  refine ⟨backSg ok al σ σ', hss w' _ _ σ' _ v hti hE hrep, ⟨by rw [backSg_len, upd_len, hI.len], fun i b e hb he => ?_, fun i e g he hg => ?_, fun i j e e' g he he' hg hg' => ?_, fun g hx ⟨i, e, he, hg⟩ => ?_, fun g hx => Nat.lt_of_lt_of_le (hI.xlt g hx) hS.size⟩, hS', backSg_len⟩
  ·have hil : i < h.length := by
    have := (List.getElem?_eq_some_iff.1 hb).1
    rw [upd_len] at this; omega
   rcases hget i e he with ⟨ho, h1⟩ | ⟨ho, a, ha, h1⟩ | ⟨ho, hno, h1⟩
   ·by_cases hw : i ∈ wr
    ·obtain ⟨p, hp, hpi, hpb⟩ := upd_in (w1 ++ w2) (h := h2) (i := i) (by obtain ⟨p, hp, e⟩ := hw1c i hw; exact ⟨p, List.mem_append_left _ hp, e⟩) (by omega)
     rw [hpb] at hb
     simp at hb; subst hb
     rcases List.mem_append.1 hp with hp | hp
     ·obtain ⟨_, _, ⟨b0, hb0, hrn⟩, _⟩ := hw1 p hp
      rw [hpi] at hb0
      exact hrn w' _ _ σ' _ e hti hE (hI'.ok i b0 e hb0 h1)
     ·obtain ⟨a, ha, _⟩ := hw2 p hp
      have := (hfr _ ha).2
      simp only at this
      rw [hpi, ho] at this; simp at this
    ·have hb2 : h2[i]? = some b := by
      rw [<- hb]
      refine (upd_get _ fun p hp hpi => ?_).symm
      rcases List.mem_append.1 hp with hp | hp
      ·exact hw (by rw [<- hpi]; exact (hw1 p hp).2.2.2)
      ·obtain ⟨a, ha, _⟩ := hw2 p hp
       have := (hfr _ ha).2
       simp only at this
       rw [hpi, ho] at this; simp at this
     have hb3 : h'[i]? = some b := by
      rw [hsm i hil hw, hmk i hil, if_pos ho, <- hag i (List.mem_append_right _ (hrd1 i hil ho))]
      exact hb2
     obtain ⟨b0, hb0, hrn⟩ := hsame i (hrd1 i hil ho) hw
     rw [hb3] at hb0
     simp at hb0; subst hb0
     have hti0 : TieN h.length ok [] σ' (backSg ok al σ σ') := ⟨hti.old, by simp⟩
     exact hrn w' _ _ σ' _ e hti0 hE (hI'.ok i b e hb3 h1)
   ·obtain ⟨p, hp, hpi, hpb⟩ := upd_in (w1 ++ w2) (h := h2) (i := i) (by obtain ⟨p, hp, e⟩ := (hw2c _ ha).1; exact ⟨p, List.mem_append_right _ hp, e⟩) (by omega)
    rw [hpb] at hb
    simp at hb; subst hb
    rcases List.mem_append.1 hp with hp | hp
    ·obtain ⟨_, ho', _⟩ := hw1 p hp
     rw [hpi, ho] at ho'; simp at ho'
    ·obtain ⟨a', ha', b0, hb0, hrn⟩ := hw2 p hp
     rw [hpi] at ha'
     have := hone a a' i ha ha'
     subst this
     exact hrn w' _ _ σ' _ e hti hE (hI'.ok a b0 e hb0 h1)
   ·have hb2 : h2[i]? = some b := by
     rw [<- hb]
     refine (upd_get _ fun p hp hpi => ?_).symm
     rcases List.mem_append.1 hp with hp | hp
     ·obtain ⟨_, ho', _⟩ := hw1 p hp
      rw [hpi, ho] at ho'; simp at ho'
     ·obtain ⟨a, ha, _⟩ := hw2 p hp
      rw [hpi] at ha
      exact hno a ha
    refine (hI.ok i b e hb2 h1).step hS' (Nat.le_refl _) fun g hg => hS.frame g (hI.lt i e g h1 hg) (hXo i e g ho h1 hg).2
  ·rcases hget i e he with ⟨_, h1⟩ | ⟨_, a, _, h1⟩ | ⟨_, _, h1⟩
   ·exact hI'.lt i e g h1 hg
   ·exact hI'.lt a e g h1 hg
   ·exact Nat.lt_of_lt_of_le (hI.lt i e g h1 hg) hS.size
  ·have mix : ∀ (a i : Nat) (e e' : Ent), σ'[a]? = some e -> e.blk = some g -> ok i = false -> σ[i]? = some e' -> e'.blk = some g -> False := fun a i e e' h1 h2 ho h3 h4 =>
    hI'.dis g (hXo i e' g ho h3 h4) ⟨a, e, h1, h2⟩
   have hle : ∀ p ∈ al, h.length <= p.1 := fun p hp => by
    obtain ⟨k, hk⟩ := List.mem_iff_getElem?.1 hp
    exact (hal k p hk).1
   rcases hget i e he with ⟨o1, h1⟩ | ⟨o1, a, ha, h1⟩ | ⟨o1, n1, h1⟩ <;> rcases hget j e' he' with ⟨o2, h2⟩ | ⟨o2, a', ha', h2⟩ | ⟨o2, n2, h2⟩
   ·exact hI'.inj i j e e' g h1 h2 hg hg'
   ·have := hI'.inj i a' e e' g h1 h2 hg hg'
    subst this
    have b1 := hle _ ha'
    have b2 := (List.getElem?_eq_some_iff.1 he).1
    rw [backSg_len] at b2
    simp only at b1
    omega
   ·exact (mix i j e e' h1 hg o2 h2 hg').elim
   ·have := hI'.inj a j e e' g h1 h2 hg hg'
    subst this
    have b1 := hle _ ha
    have b2 := (List.getElem?_eq_some_iff.1 he').1
    rw [backSg_len] at b2
    simp only at b1
    omega
   ·have := hI'.inj a a' e e' g h1 h2 hg hg'
    subst this
    obtain ⟨k1, e1⟩ := List.mem_iff_getElem?.1 ha
    obtain ⟨k2, e2⟩ := List.mem_iff_getElem?.1 ha'
    have := hinj k1 k2 _ _ e1 e2 rfl
    subst this
    rw [e1] at e2
    simp at e2
    exact e2
   ·exact (mix a j e e' h1 hg o2 h2 hg').elim
   ·exact (mix j i e' e h2 hg' o1 h1 hg).elim
   ·exact (mix a' i e' e h2 hg' o1 h1 hg).elim
   ·exact hI.inj i j e e' g h1 h2 hg hg'
  ·rcases hget i e he with ⟨_, h1⟩ | ⟨_, a, _, h1⟩ | ⟨_, _, h1⟩
   ·exact hI'.dis g (hXm g hx) ⟨i, e, h1, hg⟩
   ·exact hI'.dis g (hXm g hx) ⟨a, e, h1, hg⟩
   ·exact hI.dis g hx ⟨i, e, h1, hg⟩
theorem callsD_sound (hV : EnvOK P V) {rec : RecV} (hrec : RecOK P rec) {f : FuncId} {l : List SV} {H : HW} {nid : Nat} {K : Kop} (hk : callsD P V rec f l H nid K) :
  ∃ s ws rds, K s ws rds /\ (∀ p ∈ ws, p.1 ∈ rds) /\ ∀ (w : World) (X : Nat -> Prop) (σ : Sg) (h2 : Hp) (vs : List Value), Inv w X σ h2 -> h2.length = H.view.length -> RepL w (Ex X σ) σ l vs -> (∀ i ∈ rds, h2[i]? = H.view[i]?) ->
   OpRes P (callFunc f vs.toArray) w X σ h2 s ws := by
 unfold callsD at hk
 cases hp : assocD f V.ps with
 | some sp =>
  rw [hp] at hk
  obtain ⟨s, hk, hs⟩ := hV.ps f sp hp l _ hk
  have hcd : CallD P f l H.view nid K := hs.calld hk
  obtain ⟨s, ws, rds, hk, hc⟩ := hcd.ok
  exact ⟨s, ws, rds, hk, hc.sub, fun w X σ h2 vs hI _ hr hag => hc.ok w X σ h2 vs hI hr hag⟩
 | none =>
 rw [hp] at hk
 cases hh : assocD f V.hs with
 | some sp =>
  rw [hh] at hk
  have hk : markW (getH H) 0 4096 (0 :: rfL (rfS 3) l []) 0 [] fun acc mk => maskW H acc fun D => lenH H fun m => sp l D fun s H' wr => tailD m nid H (tbB mk) acc K s H' wr := hk
  rw [getH_eq] at hk
  obtain ⟨rds, mk, hk, hbits, hrlt⟩ := markW_sound 4096 hk bits_nil (by simp)
  generalize hok : tbB mk = ok at hk
  have hmem : ∀ i, ok i = true ↔ i ∈ rds := fun i => by rw [<- hok]; exact hbits i
  obtain ⟨D, hk, hml, hmk⟩ := maskW_sound hk
  have hrd1 : ∀ j, j < H.view.length -> ok j = true -> j ∈ rds := fun j _ h => (hmem j).1 h
  replace hmk : ∀ j, j < H.view.length -> D.view[j]? = if ok j = true then H.view[j]? else some .dead := fun j hj => by
   rw [hmk j hj]
   by_cases h : j ∈ rds
   ·rw [if_pos h, if_pos ((hmem j).2 h)]
   ·rw [if_neg h, if_neg (fun e => h ((hmem j).1 e))]
  have hk := lenH_sound (k := fun m => sp l D fun s H' wr => tailD m nid H ok rds K s H' wr) hk
  obtain ⟨s, H', wr, hk, hchg, hle, hcg⟩ := (hV.hs f sp hh l D _ hk).ok
  unfold tailD at hk
  simp only [getH_eq] at hk
  refine tailD_sound hmem hml hmk hrd1 (by rw [<- hml]; exact hle) (fun i hi hw => hchg i (by rw [hml]; exact hi) hw) (fun w X σ vs hI hr => ?_) hk
  have hl : σ.length = H.view.length := by rw [hI.len, hml]
  rw [<- hl]
  exact (hcg.ok w X σ vs hI hr).mono fun v w' ⟨s1, h1, σ', ⟨e1, e2⟩, a, b, c⟩ => ⟨σ', by rw [<- e1]; exact a, by rw [<- e2]; exact b, c⟩
 | none =>
 rw [hh] at hk
 have hk : markW (getH H) 0 4096 (rfL (rfS 3) l []) 0 [] fun acc mk =>
  maskW H acc fun D => fnK V.FT f fun fn => bodyK fn.body fun cd => startW l fn.ntmps fun F => lenH H fun m =>
   rec false m fn.ntmps cd F D [] (retD V.T fn m nid H (tbB mk) acc K) := hk
 rw [getH_eq] at hk
 obtain ⟨rds, mk, hk, hbits, hrlt⟩ := markW_sound 4096 hk bits_nil (by simp)
 generalize hok : tbB mk = ok at hk
 have hmem : ∀ i, ok i = true ↔ i ∈ rds := fun i => by rw [<- hok]; exact hbits i
 obtain ⟨D, hk, hml, hmk⟩ := maskW_sound hk
 have hrd1 : ∀ j, j < H.view.length -> ok j = true -> j ∈ rds := fun j _ h => (hmem j).1 h
 replace hmk : ∀ j, j < H.view.length -> D.view[j]? = if ok j = true then H.view[j]? else some .dead := fun j hj => by
  rw [hmk j hj]
  by_cases h : j ∈ rds
  ·rw [if_pos h, if_pos ((hmem j).2 h)]
  ·rw [if_neg h, if_neg (fun e => h ((hmem j).1 e))]
 obtain ⟨fn, hf, hn, hk⟩ := fnK_sound hV hk
 obtain ⟨c, hb, hk⟩ := bodyK_sound hk
 obtain ⟨F, hk, hs⟩ := startW_sound hk
 have hk := lenH_sound (k := fun m => rec false m fn.ntmps c F D [] (retD V.T fn m nid H ok rds K)) hk
 obtain ⟨x, F', H', wr, hk, hc, hM⟩ := hrec false H.view.length fn.ntmps c F D [] _ (by rw [hml]; exact Nat.le_refl _) hk
 have hc : SOK P H.view.length c (viewF fn.ntmps F) D.view (Just x (viewF fn.ntmps F') H'.view) := hc
 have key : (∀ i, x ≠ .exit i) /\ (resW H' fn.ntmps F' V.T fn.results.toList fun rl => tupK rl fun s =>
   tailD H.view.length nid H ok rds K s H' wr) := by
  cases x with
  | normal => exact ⟨by simp, hk⟩
  | ret => exact ⟨by simp, hk⟩
  | exit i => exact hk.elim
 obtain ⟨hx, hk⟩ := key
 rw [resW_eq] at hk
 obtain ⟨ss, hk, hrs⟩ := resK_sound hV.tab _ hk
 obtain ⟨s, hk, hst⟩ := tupK_sound hk
 unfold tailD at hk
 simp only [getH_eq] at hk
 exact tailD_sound hmem hml hmk hrd1 (by have := hM.le; omega) hM.same (fun w X σ vs hI hr => done_of_body hf hn hb hs hc hx hrs hst hI hr) hk
end
end Go.Sx

namespace Go.Sx
section
variable {P : Program} {V : Env}
theorem pushesH_sound (n : Nat) : ∀ {H : HW} {k : HW -> Prop}, pushesH n H k -> ∃ H', k H' /\ H.view.length <= H'.view.length /\ (∀ i, i < H.view.length -> H'.view[i]? = H.view[i]?) /\
  ∀ (w : World) (X : Nat -> Prop) (σ : Sg), Inv w X σ H.view -> ∃ σ', Inv w X σ' H'.view /\ Step σ.length w σ w σ' := by
 induction n with
 | zero => intro H k hk; exact ⟨H, hk, Nat.le_refl _, fun _ _ => rfl, fun w X σ hI => ⟨σ, hI, .refl _ _ _⟩⟩
 | succ n ih =>
  intro H k hk
  obtain ⟨H1, hk, hv⟩ := pushH_sound (show pushH H .fresh (fun _ H' => pushesH n H' k) from hk)
  obtain ⟨H', hk, hle, hsm, hs⟩ := ih hk
  rw [hv] at hle hsm hs
  refine ⟨H', hk, by simp at hle; omega, fun i hi => by rw [hsm i (by simp; omega), List.getElem?_append_left hi], fun w X σ hI => ?_⟩
  obtain ⟨hI1, hS1⟩ := hI.fresh
  obtain ⟨σ', hI', hS'⟩ := hs w X _ hI1
  exact ⟨σ', hI', hS1.trans (hS'.le (by simp))⟩
theorem resvV_sound {T : Tab} (l : List Oper) : ∀ {H : HW} {k : List Nat -> HW -> Prop}, resvV T l H k -> ∃ ns H', k ns H' /\ H.view.length <= H'.view.length /\ (∀ i, i < H.view.length -> H'.view[i]? = H.view[i]?) /\
  ∀ (w : World) (X : Nat -> Prop) (σ : Sg), Inv w X σ H.view -> ∃ σ', Inv w X σ' H'.view /\ Step σ.length w σ w σ' := by
 induction l with
 | nil => intro H k hk; exact ⟨[], H, hk, Nat.le_refl _, fun _ _ => rfl, fun w X σ hI => ⟨σ, hI, .refl _ _ _⟩⟩
 | cons o l ih =>
  intro H k hk
  have six : (pushH H .fresh fun n H' => pushesH 15 H' fun H' => resvV T l H' fun ns H'' => k (n :: ns) H'') -> ∃ ns H', k ns H' /\ H.view.length <= H'.view.length /\ (∀ i, i < H.view.length -> H'.view[i]? = H.view[i]?) /\
    ∀ (w : World) (X : Nat -> Prop) (σ : Sg), Inv w X σ H.view -> ∃ σ', Inv w X σ' H'.view /\ Step σ.length w σ w σ' := fun hk => by
   obtain ⟨H1, hk, hv⟩ := pushH_sound hk
   obtain ⟨H2, hk, hle2, hsm2, hs2⟩ := pushesH_sound 15 hk
   obtain ⟨ns, H', hk, hle, hsm, hs⟩ := ih hk
   rw [hv] at hle2 hsm2 hs2
   refine ⟨_, H', hk, by simp at hle2; omega, fun i hi => by rw [hsm i (by simp at hle2; omega), hsm2 i (by simp; omega), List.getElem?_append_left hi], fun w X σ hI => ?_⟩
   obtain ⟨hI1, hS1⟩ := hI.fresh
   obtain ⟨σ2, hI2, hS2⟩ := hs2 w X _ hI1
   obtain ⟨σ', hI', hS'⟩ := hs w X _ hI2
   exact ⟨σ', hI', (hS1.trans (hS2.le (by simp))).trans hS'.any⟩
  have other : (Bool.rec (motive := fun _ => Prop) (resvV T l H fun ns H'' => k (0 :: ns) H'') (pushH H .fresh fun n H' => resvV T l H' fun ns H'' => k (n :: ns) H'') (needsV T o.op)) -> ∃ ns H', k ns H' /\ H.view.length <= H'.view.length /\ (∀ i, i < H.view.length -> H'.view[i]? = H.view[i]?) /\
    ∀ (w : World) (X : Nat -> Prop) (σ : Sg), Inv w X σ H.view -> ∃ σ', Inv w X σ' H'.view /\ Step σ.length w σ w σ' := fun hk => by
   cases hn : needsV T o.op with
   | true =>
    rw [hn] at hk
    obtain ⟨H1, hk, hv⟩ := pushH_sound hk
    obtain ⟨ns, H', hk, hle, hsm, hs⟩ := ih hk
    rw [hv] at hle hsm hs
    refine ⟨_, H', hk, by simp at hle; omega, fun i hi => by rw [hsm i (by simp; omega), List.getElem?_append_left hi], fun w X σ hI => ?_⟩
    obtain ⟨hI1, hS1⟩ := hI.fresh
    obtain ⟨σ', hI', hS'⟩ := hs w X _ hI1
    exact ⟨σ', hI', hS1.trans (hS'.le (by simp))⟩
   | false =>
    rw [hn] at hk
    obtain ⟨ns, H', hk, hle, hsm, hs⟩ := ih hk
    exact ⟨_, H', hk, hle, hsm, hs⟩
  obtain ⟨d, op, ty, pos, after, guard⟩ := o
  cases op with
  | call c =>
   obtain ⟨callee, xs, ats⟩ := c
   cases callee with
   | value x => exact six hk
   | invoke r n => exact six hk
   | builtin b => exact other hk
  | _ => exact other hk
theorem fireV_sound (hV : EnvOK P V) {rec : RecV} (hrec : RecOK P rec) {ops : Array Oper} {n : Nat} {F0 : FW} {H : HW} {nid : Nat} {o : Oper} {K : Kop} {F : Fr} {h : Hp} (eF : viewF n F0 = F) (eH : H.view = h) (hk : fireV P V rec n F0 H nid o.op K) : ∃ s ws rds, K s ws rds /\ (∀ p ∈ ws, p.1 ∈ rds) /\
  ∀ (w : World) (X : Nat -> Prop) (σ : Sg) (h2 : Hp) (a : Act), Inv w X σ h2 -> h2.length = h.length -> (∀ t ∈ o.looksAt ops, ∀ s, F[t]? = some s -> ∃ v, a.tmps[t]? = some v /\ Rep w (Ex X σ) σ s v) ->
  (∀ i ∈ rds, h2[i]? = h[i]?) -> OpRes P (execOp a.eval o) w X σ h2 s ws := by
 obtain ⟨d, op, ty, pos, after, guard⟩ := o
 have plain : (Bool.rec (motive := fun _ => Prop) (opVE V.T V.c (evW n F0) (getH H) 0 op K) (getH H nid fun b => match b with | .fresh => opVE V.T V.c (evW n F0) (getH H) nid op K | _ => False) (needsV V.T op)) -> ∃ s ws rds, K s ws rds /\ (∀ p ∈ ws, p.1 ∈ rds) /\
   ∀ (w : World) (X : Nat -> Prop) (σ : Sg) (h2 : Hp) (a : Act), Inv w X σ h2 -> h2.length = h.length -> (∀ t ∈ (Oper.mk d op ty pos after guard).looksAt ops, ∀ s, F[t]? = some s -> ∃ v, a.tmps[t]? = some v /\ Rep w (Ex X σ) σ s v) ->
   (∀ i ∈ rds, h2[i]? = h[i]?) -> OpRes P (execOp a.eval ⟨d, op, ty, pos, after, guard⟩) w X σ h2 s ws := by
  intro hk
  subst eF; subst eH
  have hg : OpGood P (viewF n F0) H.view op K := by
   cases hn : needsV V.T op with
   | true =>
    rw [hn] at hk
    rw [getH_eq, evW_eq] at hk
    obtain ⟨b, hb, hk⟩ := nthK_sound (show nthK H.view nid _ from hk)
    cases b with
    | fresh => exact opV_sound hV.tab (fun _ => hb) hk
    | _ => exact hk.elim
   | false =>
    rw [hn] at hk
    exact opV_sound hV.tab (fun h => by rw [hn] at h; simp at h) (opVE_view hk)
  obtain ⟨s, ws, rds, hk, hok, hsub⟩ := hg
  exact ⟨s, ws, rds, hk, hsub, fun w X σ h2 a hI _ hl hr => hok w X σ h2 a.eval d ty pos after guard hI (fun x hx => opn_of_looks hl x hx) hr⟩
 cases op with
 | call c =>
  obtain ⟨callee, xs, ats⟩ := c
  cases callee with
  | value x =>
   obtain ⟨sx, hk, hx⟩ := evW_sound (show evW n F0 x _ from hk)
   rw [eF] at hx
   cases sx with
   | fn f cs =>
    obtain ⟨l, hk, hl⟩ := evsE_sound hk
    rw [eF] at hl
    have hk := appK_sound hk
    obtain ⟨s, ws, rds, hk, hsub, hok⟩ := callsD_sound hV hrec hk
    rw [eH] at hok
    refine ⟨s, ws, rds, hk, hsub, fun w X σ h2 a hI hlen hlk hrd => ?_⟩
    have hopn := opn_of_looks hlk
    have hr := hx w _ σ a.eval (hopn x (by simp [Op.operands, Call.operands]))
    have hls := hl w _ σ a.eval fun y hy => hopn y (by simp [Op.operands, Call.operands]; right; simpa using hy)
    generalize hρ : a.eval x = vx at hr
    cases hr with
    | @fn _ _ _ vs hlen2 hcs =>
     rw [callval_run hρ]
     refine hok w X σ h2 _ hI hlen ⟨by rw [List.length_append, List.length_append, hls.1, hlen2]; simp, fun i s v hs hv => ?_⟩ hrd
     rw [List.getElem?_append] at hs hv
     rw [<- hls.1] at hv
     split at hs
     ·rename_i hlt
      rw [if_pos hlt] at hv
      exact hls.2 i s v hs hv
     ·rename_i hlt
      rw [if_neg hlt] at hv
      exact hcs _ s v hs (by simpa using hv)
   | mfn f cs =>
    obtain ⟨l, hk, hl⟩ := evsE_sound hk
    rw [eF] at hl
    have hk := appK_sound hk
    obtain ⟨s, ws, rds, hk, hsub, hok⟩ := callsD_sound hV hrec hk
    rw [eH] at hok
    refine ⟨s, ws, rds, hk, hsub, fun w X σ h2 a hI hlen hlk hrd => ?_⟩
    have hopn := opn_of_looks hlk
    have hr := hx w _ σ a.eval (hopn x (by simp [Op.operands, Call.operands]))
    have hls := hl w _ σ a.eval fun y hy => hopn y (by simp [Op.operands, Call.operands]; right; simpa using hy)
    generalize hρ : a.eval x = vx at hr
    cases hr with
    | @mfn _ _ _ vs hlen2 hcs =>
     rw [callmfn_run hρ]
     refine hok w X σ h2 _ hI hlen ⟨by rw [List.length_append, List.length_append, hls.1, hlen2]; simp, fun i s v hs hv => ?_⟩ hrd
     rw [List.getElem?_append] at hs hv
     rw [show vs.toList.length = cs.length by simp [hlen2]] at hv
     split at hs
     ·rename_i hlt
      rw [if_pos hlt] at hv
      exact hcs i s v hs (by simpa using hv)
     ·rename_i hlt
      rw [if_neg hlt] at hv
      exact hls.2 _ s v hs hv
   | _ => exact hk.elim
  | invoke r name =>
   obtain ⟨sx, hk, hx⟩ := evW_sound (show evW n F0 r _ from hk)
   rw [eF] at hx
   cases sx with
   | ifc t s0 =>
    obtain ⟨f, hmt, hk⟩ := mtK_sound hk
    obtain ⟨l, hk, hl⟩ := evsE_sound hk
    rw [eF] at hl
    obtain ⟨s, ws, rds, hk, hsub, hok⟩ := callsD_sound hV hrec hk
    rw [eH] at hok
    refine ⟨s, ws, rds, hk, hsub, fun w X σ h2 a hI hlen hlk hrd => ?_⟩
    have hopn := opn_of_looks hlk
    have hr := hx w _ σ a.eval (hopn r (by simp [Op.operands, Call.operands]))
    have hls := hl w _ σ a.eval fun y hy => hopn y (by simp [Op.operands, Call.operands]; right; simpa using hy)
    generalize hρ : a.eval r = vx at hr
    cases hr with
    | @ifc _ _ _ v hrv =>
     refine DoneS.congr ?_ (invoke_run hV hmt hρ w)
     refine hok w X σ h2 _ hI hlen ⟨by simp [hls.1], fun i s v' hs hv => ?_⟩ hrd
     cases i with
     | zero => simp at hs hv; subst hs; subst hv; exact hrv
     | succ i => exact hls.2 i s v' (by simpa using hs) (by simpa using hv)
   | _ => exact hk.elim
  | builtin b => exact plain hk
 | _ => exact plain hk
theorem dopsV_sound (hV : EnvOK P V) {rec : RecV} (hrec : RecOK P rec) {ops : Array Oper} {n : Nat} (l : List Oper) : ∀ {ids : List Nat} {F : FW} {H : HW} {K : List Rec -> FW -> HW -> Prop}, dopsV P V rec n ops.toList l ids F H K ->
  ∃ rs F' H', K rs F' H' /\ Run P ops (viewF n F) H.view l rs (viewF n F') H'.view := by
 induction l with
 | nil => intro ids F H K hk; exact ⟨[], F, H, hk, .nil⟩
 | cons o l ih =>
  intro ids F H K hk
  cases ids with
  | nil => exact (show False from hk).elim
  | cons nid ids =>
   have hk0 : wantW ops.toList n F o.guard (fireV P V rec n F H nid o.op fun s ws rds => putW n F o.dst s fun F' => updW ws H fun H' =>
     dopsV P V rec n ops.toList l ids F' H' fun rs => K (⟨s, ws, rds⟩ :: rs))
    (putW n F o.dst .undef fun F' => dopsV P V rec n ops.toList l ids F' H fun rs => K (⟨.undef, [], []⟩ :: rs)) := hk
   rw [wantW_eq] at hk0
   obtain ⟨b, hk, hw⟩ := wantK_sound hk0
   cases b with
   | true =>
    simp only [if_true] at hk
    obtain ⟨s, ws, rds, hk, hsub, hok⟩ := fireV_sound hV hrec (ops := ops) (o := o) rfl rfl hk
    obtain ⟨F1, hk, hp⟩ := putW_sound hk
    obtain ⟨H1, hk, hv⟩ := updW_sound hk
    obtain ⟨rs, F', H', hk, hr⟩ := ih hk
    rw [hp, hv] at hr
    exact ⟨_, F', H', hk, .cons ⟨fun w X σ h2 a hI hlen hl hrd => .inl ⟨hw w _ σ a hl, hok w X σ h2 a hI hlen hl hrd⟩, hsub⟩ hr⟩
   | false =>
    simp only [Bool.false_eq_true, if_false] at hk
    obtain ⟨F1, hk, hp⟩ := putW_sound hk
    obtain ⟨rs, F', H', hk, hr⟩ := ih hk
    rw [hp] at hr
    exact ⟨_, F', H', hk, .cons ⟨fun w X σ h2 a hI _ hl hrd => .inr ⟨hw w _ σ a hl, rfl, rfl⟩, by simp⟩ hr⟩
theorem Run.same {ops : Array Oper} {F F' : Fr} {h h' : Hp} {l : List Oper} {rs : List Rec} (hr : Run P ops F h l rs F' h') : h'.length = h.length /\ ∀ i, (∀ r ∈ rs, ∀ p ∈ r.ws, p.1 ≠ i) -> h'[i]? = h[i]? := by
 induction hr with
 | nil => exact ⟨rfl, fun _ _ => rfl⟩
 | cons hg hr ih =>
  refine ⟨by rw [ih.1, upd_len], fun i hi => ?_⟩
  rw [ih.2 i fun r hr' => hi r (List.mem_cons_of_mem _ hr')]
  exact upd_get _ (hi _ (List.mem_cons_self ..))
theorem logsK_sound {m : Nat} (rs : List Rec) : ∀ {wr : List Nat} {k : List Nat -> Prop}, logsK m rs wr k -> ∃ wr', k wr' /\ (∀ i, i ∈ wr -> i ∈ wr') /\ ∀ r ∈ rs, ∀ p ∈ r.ws, p.1 < m -> p.1 ∈ wr' := by
 induction rs with
 | nil => intro wr k h; exact ⟨wr, h, fun _ h => h, by simp⟩
 | cons r rs ih =>
  intro wr k h
  obtain ⟨wr1, h, h1, h2⟩ := logK_sound r.ws (show logK m r.ws wr _ from h)
  obtain ⟨wr', hk, h3, h4⟩ := ih h
  refine ⟨wr', hk, fun i hi => h3 i (h1 i hi), fun q hq => ?_⟩
  rcases List.mem_cons.1 hq with rfl | hq
  ·exact fun p hp hlt => h3 _ (h2 p hp hlt)
  ·exact h4 q hq
theorem Run.planP {ops : Array Oper} {F0 Ff : Fr} {h0 hf : Hp} {recs : List Rec} (hr : Run P ops F0 h0 ops.toList recs Ff hf)
  (hi : ∀ (i : Nat) (o : Oper) (r : Rec), ops[i]? = some o -> recs[i]? = some r -> PairsOK ops (ops.toList.zip (recs.map markOf)) i (o, markOf r)) :
  Plan P ops recs F0 h0 /\ Ff = FL ops.toList recs F0 (fun _ => true) ops.size /\ hf = HL recs h0 (fun _ => true) ops.size := by
 have hr0 : Run P ops (FL ops.toList recs F0 (fun _ => true) 0) (HL recs h0 (fun _ => true) 0) ops.toList recs Ff hf := hr
 obtain ⟨a1, a2, a3, a4⟩ := hr0.at (ops := ops) (recs := recs) ops.toList (fun i => by rw [Nat.zero_add]) (fun i => by rw [Nat.zero_add])
 have hlen : recs.length = ops.size := by rw [a1]; simp
 exact ⟨⟨hlen, fun i o r ho hrc => by have := a2 i o r (by rw [Array.getElem?_toList]; exact ho) hrc; rwa [Nat.zero_add] at this, hi⟩, by rw [a3]; simp, by rw [a4]; simp⟩
theorem pairs_of {ops : Array Oper} {cs : List Nat} {rs : List Rec} (hpl : planD ops = some cs) (hlen : rs.length = ops.size)
  (ht : ∀ (a j : Nat) (r rj : Rec) (c : Nat), rs[a]? = some r -> cs[a]? = some c -> j < 0 + a -> ([] ++ rs)[j]? = some rj ->
   c.testBit j = true ∨ ((∀ b ∈ rj.ws.map (·.1), b ∉ r.rds) /\ ∀ b ∈ r.ws.map (·.1), b ∉ rj.rds)) (i : Nat) (o : Oper) (r : Rec) (ho : ops[i]? = some o) (hr : rs[i]? = some r) :
  PairsOK ops (ops.toList.zip (rs.map markOf)) i (o, markOf r) := by
 obtain ⟨hl, hp⟩ := planG_spec (ops := ops) ops.toList (pre := []) (done := []) (cl := []) rfl rfl rfl (by simp) hpl
 have hi : i < cs.length := by rw [hl]; simpa using (Array.getElem?_eq_some_iff.1 ho).1
 have hc := List.getElem?_eq_getElem hi
 obtain ⟨h1, h2, h3⟩ := hp i _ hc o (by rw [Array.getElem?_toList]; exact ho)
 have hmap : (ops.toList.zip (rs.map markOf)).map (·.1) = ops.toList := by
  rw [List.map_fst_zip]
  simp [hlen]
 refine ⟨h1, cs[i], by rw [hmap]; exact h2, fun j y hj hy => ?_⟩
 rw [List.getElem?_zip_eq_some] at hy
 obtain ⟨hy1, hy2⟩ := hy
 rw [List.getElem?_map] at hy2
 cases hrj : rs[j]? with
 | none => rw [hrj] at hy2; simp at hy2
 | some rj =>
  rw [hrj] at hy2
  simp only [Option.map_some, Option.some.injEq] at hy2
  rcases h3 j y.1 hj hy1 with h | h
  ·exact .inl h
  ·rcases ht i j r rj _ hr hc (by omega) (by rw [List.nil_append]; exact hrj) with h' | ⟨h4, h5⟩
   ·exact .inl h'
   ·refine .inr ?_
    unfold apartB
    rw [h, <- hy2]
    simp only [Bool.true_and, Bool.and_eq_true, Bool.not_eq_true']
    constructor
    ·simp only [meetB, List.any_eq_false, List.contains_iff_mem, markOf]
     intro b hb; exact h4 b hb
    ·simp only [meetB, List.any_eq_false, List.contains_iff_mem, markOf]
     intro b hb; exact h5 b hb
theorem planK_sound {ops : Array Oper} {k : List Nat -> Prop} (h : planK ops k) : ∃ cs, planD ops = some cs /\ k cs := by
 unfold planK at h
 cases hp : planD ops with
 | none => rw [hp] at h; exact h.elim
 | some cs => rw [hp] at h; exact ⟨cs, rfl, h⟩
theorem Run.len {ops : Array Oper} {F F' : Fr} {h h' : Hp} {l : List Oper} {rs : List Rec} (hr : Run P ops F h l rs F' h') : rs.length = l.length := by
 induction hr with
 | nil => rfl
 | cons _ _ ih => simp [ih]
theorem SOK.draw (hm : P.follows .mixedOrders = true) {m : Nat} {id : Nat} {ops : Array Oper} {F F' : Fr} {h h' h'' : Hp} {rs : List Rec}
  (hres : ∀ (w : World) (X : Nat -> Prop) (σ : Sg), Inv w X σ h -> ∃ σ', Inv w X σ' h' /\ Step σ.length w σ w σ') (hrun : Run P ops F h' ops.toList rs F' h'') (hind : ∀ (i : Nat) (o : Oper) (r : Rec), ops[i]? = some o -> rs[i]? = some r -> PairsOK ops (ops.toList.zip (rs.map markOf)) i (o, markOf r)) :
  SOK P m (.region id ops true) F h (Just .normal F' h'') := by
 intro w X σ tmps hI hF
 refine wp_region_any hm ?_
 obtain ⟨hp, e1, e2⟩ := hrun.planP hind
 obtain ⟨σ1, hI1, hS1⟩ := hres w X σ hI
 have hF1 := hF.step hS1 (Nat.le_refl _)
 have hS2 : Step σ1.length w σ1 { w with drawn := w.drawn + 1 } σ1 := ⟨rfl, rfl, rfl, Nat.le_refl _, fun _ _ _ => rfl, fun _ h _ => h, fun _ _ _ h _ => .inl h⟩
 have hF2 := hF1.step hS2 (Nat.le_refl _)
 have hI2 : Inv { w with drawn := w.drawn + 1 } X σ1 h' := hI1.heap rfl
 have hL0 : ∀ k, FL ops.toList rs F (listedB (Array.replicate ops.size false)) k = F := by
  intro k
  induction k with
  | zero => rfl
  | succ k ih =>
   simp only [FL]
   rw [if_neg, ih]
   simp only [listedB, Array.getD_eq_getD_getElem?, Array.getElem?_replicate]
   split <;> simp
 have hH0 : ∀ k, HL rs h' (listedB (Array.replicate ops.size false)) k = h' := by
  intro k
  induction k with
  | zero => rfl
  | succ k ih =>
   simp only [HL]
   rw [if_neg, ih]
   simp only [listedB, Array.getD_eq_getD_getElem?, Array.getElem?_replicate]
   split <;> simp
 have hbf : ∀ i, listedB (Array.replicate ops.size false) i = false := fun i => by
  simp only [listedB, Array.getD_eq_getD_getElem?, Array.getElem?_replicate]
  split <;> simp
 have hk : (fun (F1 : Fr) (h1 : Hp) => F1 = F' /\ h1 = h'') (FL ops.toList rs F (fun _ => true) ops.size) (HL rs h' (fun _ => true) ops.size) := ⟨e1.symm, e2.symm⟩
 refine draw_sound hp (K := fun F1 h1 => F1 = F' /\ h1 = h'') hk ops.size _ (List.range ops.size) ⟨tmps, []⟩ _ σ1 (by simp) (fun i o _ hi => by rw [hbf] at hi; simp at hi) (by simp) (fun i hi _ => List.mem_range.2 hi) rfl ?_ ?_ (hS1.any.trans hS2.any)
 ·rw [hH0]; exact hI2
 ·rw [hL0]; exact hF2
theorem drawV_sound (hV : EnvOK P V) {rec : RecV} (hrec : RecOK P rec) {m n : Nat} {id : Nat} {ops : Array Oper} {F : FW} {H : HW} {wr : List Nat} {K : FW -> HW -> List Nat -> Prop} (hm : m <= H.view.length) (hk : drawV P V rec m n ops F H wr K) :
  ∃ F' H' wr', K F' H' wr' /\ SOK P m (.region id ops true) (viewF n F) H.view (Just .normal (viewF n F') H'.view) /\ Moved m H.view wr H'.view wr' := by
 obtain ⟨cs, hpl, hk⟩ := planK_sound hk
 obtain ⟨ids, H1, hk, hle, hsm, hres⟩ := resvV_sound ops.toList hk
 obtain ⟨rs, F', H', hk, hrun⟩ := dopsV_sound hV hrec ops.toList hk
 obtain ⟨hk, _, ht⟩ := touchK_spec rs [] rfl (by simp) hk
 obtain ⟨wr', hk, h1, h2⟩ := logsK_sound rs hk
 obtain ⟨hl, hs⟩ := hrun.same
 have hlen : rs.length = ops.size := by rw [hrun.len]; simp
 exact ⟨F', H', wr', hk, .draw hV.mixed hres hrun (pairs_of hpl hlen ht), h1, fun i hi hn => by
  rw [hs i fun r hr p hp he => hn (by subst he; exact h2 r hr p hp hi), hsm i (by omega)], by omega⟩
theorem SOK.just_seq {m : Nat} {a b : Code} {F F1 : Fr} {h h1 : Hp} {K : Post} (ha : SOK P m a F h (Just .normal F1 h1)) (hb : SOK P m b F1 h1 K) : SOK P m (.seq a b) F h K :=
 SOK.seq (ha.mono fun x F h ⟨e1, e2, e3⟩ => by subst e1; subst e2; subst e3; exact hb)
theorem codeV_sound (hV : EnvOK P V) {rec : RecV} (hrec : RecOK P rec) {m n : Nat} (c : Code) : ∀ {F : FW} {H : HW} {wr : List Nat} {K : PostV}, m <= H.view.length -> codeV P V rec m n c F H wr K ->
  ∃ x F' H' wr', K x F' H' wr' /\ SOK P m c (viewF n F) H.view (Just x (viewF n F') H'.view) /\ Moved m H.view wr H'.view wr' := by
 induction c with
 | skip => intro F H wr K _ hk; exact ⟨_, _, _, _, hk, fun w X σ tmps hI hF => wp_skip ⟨rfl, .normal, _, _, σ, rfl, ⟨rfl, rfl, rfl⟩, hI, hF, .refl _ _ _⟩, .refl⟩
 | region id ops draw =>
  intro F H wr K hm hk
  cases draw with
  | false =>
   obtain ⟨F', h', wr', hk, hM, hw⟩ := opsV_sound hV hrec ops.toList hm (show opsV P V rec m n ops.toList ops.toList F H wr _ from hk)
   exact ⟨_, _, _, _, hk, fun w X σ tmps hI hF => wp_region_list (hw w X σ tmps hI hF), hM⟩
  | true =>
   obtain ⟨F', h', wr', hk, hs, hM⟩ := drawV_sound hV hrec (id := id) hm (show drawV P V rec m n ops F H wr _ from hk)
   exact ⟨_, _, _, _, hk, hs, hM⟩
 | seq a b iha ihb =>
  intro F H wr K hm hk
  obtain ⟨x, F1, h1, wr1, hk, hs, hM⟩ := iha hm hk
  cases x with
  | normal =>
   obtain ⟨x, F2, h2, wr2, hk, hs2, hM2⟩ := ihb (Nat.le_trans hm hM.le) hk
   exact ⟨x, F2, h2, wr2, hk, .just_seq hs hs2, hM.trans hM2⟩
  | exit i => exact ⟨_, _, _, _, hk, SOK.seq (hs.mono fun x F h ⟨e1, e2, e3⟩ => by subst e1; subst e2; subst e3; exact ⟨rfl, rfl, rfl⟩), hM⟩
  | ret => exact ⟨_, _, _, _, hk, SOK.seq (hs.mono fun x F h ⟨e1, e2, e3⟩ => by subst e1; subst e2; subst e3; exact ⟨rfl, rfl, rfl⟩), hM⟩
 | cond c a b iha ihb =>
  intro F H wr K hm hk
  obtain ⟨s, hk, hs⟩ := evW_sound (show evW n F c _ from hk)
  cases s with
  | tt =>
   obtain ⟨x, F1, h1, wr1, hk, hc, hM⟩ := iha hm hk
   refine ⟨x, F1, h1, wr1, hk, fun w X σ tmps hI hF => ?_, hM⟩
   have hr := hs w (Ex X σ) σ (Act.eval ⟨tmps, []⟩) (FRep.opn (a := ⟨tmps, []⟩) hF c)
   generalize hv : Act.eval ⟨tmps, []⟩ c = v at hr
   cases hr
   exact wp_cond (t := true) hv (hc w X σ tmps hI hF)
  | ff =>
   obtain ⟨x, F1, h1, wr1, hk, hc, hM⟩ := ihb hm hk
   refine ⟨x, F1, h1, wr1, hk, fun w X σ tmps hI hF => ?_, hM⟩
   have hr := hs w (Ex X σ) σ (Act.eval ⟨tmps, []⟩) (FRep.opn (a := ⟨tmps, []⟩) hF c)
   generalize hv : Act.eval ⟨tmps, []⟩ c = v at hr
   cases hr
   exact wp_cond (t := false) hv (hc w X σ tmps hI hF)
  | _ => exact hk.elim
 | block id c ih =>
  intro F H wr K hm hk
  obtain ⟨x, F1, h1, wr1, hk, hc, hM⟩ := ih hm hk
  cases x with
  | normal => exact ⟨_, _, _, _, hk, SOK.block (hc.mono fun x F h ⟨e1, e2, e3⟩ => by subst e1; subst e2; subst e3; exact ⟨rfl, rfl, rfl⟩), hM⟩
  | ret => exact ⟨_, _, _, _, hk, SOK.block (hc.mono fun x F h ⟨e1, e2, e3⟩ => by subst e1; subst e2; subst e3; exact ⟨rfl, rfl, rfl⟩), hM⟩
  | exit i =>
   cases hb : Nat.beq i id with
   | true =>
    simp only [hb] at hk
    exact ⟨_, _, _, _, hk, SOK.block (hc.mono fun x F h ⟨e1, e2, e3⟩ => by subst e1; subst e2; subst e3; simp only [hb]; exact ⟨rfl, rfl, rfl⟩), hM⟩
   | false =>
    simp only [hb] at hk
    exact ⟨_, _, _, _, hk, SOK.block (hc.mono fun x F h ⟨e1, e2, e3⟩ => by subst e1; subst e2; subst e3; simp only [hb]; exact ⟨rfl, rfl, rfl⟩), hM⟩
 | loop c _ =>
  intro F H wr K hm hk
  obtain ⟨x, F', h', wr', hk, ⟨n, hc⟩, hM⟩ := hrec true m n c F H wr K hm hk
  exact ⟨x, F', h', wr', hk, fun w X σ tmps hI hF => wp_loop_rounds n (hc w X σ tmps hI hF), hM⟩
 | rangeFunc f ps a b _ _ => intro F H wr K _ hk; exact hk.elim
 | exit id => intro F H wr K _ hk; exact ⟨_, _, _, _, hk, fun w X σ tmps hI hF => wp_exit ⟨rfl, .exit id, _, _, σ, rfl, ⟨rfl, rfl, rfl⟩, hI, hF, .refl _ _ _⟩, .refl⟩
 | scope c ih =>
  intro F H wr K hm hk
  obtain ⟨x, F1, h1, wr1, hk, hc, hM⟩ := ih hm hk
  refine ⟨x, F1, h1, wr1, hk, fun w X σ tmps hI hF => wp_scope_straight (wp_mono (hc w X σ tmps hI hF) fun e a w' hq => ?_), hM⟩
  cases e with
  | goto l => obtain ⟨_, x, _, _, _, hx, _⟩ := hq; cases hx
  | _ => exact hq
 | label l => intro F H wr K _ hk; exact ⟨_, _, _, _, hk, fun w X σ tmps hI hF => wp_label ⟨rfl, .normal, _, _, σ, rfl, ⟨rfl, rfl, rfl⟩, hI, hF, .refl _ _ _⟩, .refl⟩
 | goto l => intro F H wr K _ hk; exact hk.elim
 | ret => intro F H wr K _ hk; exact ⟨_, _, _, _, hk, fun w X σ tmps hI hF => wp_ret ⟨rfl, .ret, _, _, σ, rfl, ⟨rfl, rfl, rfl⟩, hI, hF, .refl _ _ _⟩, .refl⟩
 | refuse why => intro F H wr K _ hk; exact hk.elim
theorem rounds_mono {c : Code} {Q Q' : Exit -> Act -> World -> Prop} (hq : ∀ e a w, Q e a w -> Q' e a w) : ∀ {n : Nat} {a : Act} {w : World}, Code.rounds P c Q n a w -> Code.rounds P c Q' n a w := by
 intro n
 induction n with
 | zero => intro a w h; exact h.elim
 | succ n ih =>
  intro a w h
  rw [rounds_succ] at h ⊢
  refine wp_mono h fun e a' w' hq' => ?_
  cases e <;> first | exact ih hq' | exact hq _ _ _ hq'
theorem runV_sound (hV : EnvOK P V) : ∀ fuel, RecOK P (runV P V fuel) := by
 intro fuel
 induction fuel with
 | zero => intro b m n c F H wr K _ hk; exact (show False from hk).elim
 | succ fuel ih =>
  intro b m n c F H wr K hm hk
  have hk : codeV P V (runV P V fuel) m n c F H wr (Bool.rec (motive := fun _ => PostV) K (roundV (runV P V fuel) m n c K) b) := hk
  obtain ⟨x, F1, h1, wr1, hk, hc, hM⟩ := codeV_sound hV ih c hm hk
  cases b with
  | false => exact ⟨x, F1, h1, wr1, hk, hc, hM⟩
  | true =>
   have hk : roundV (runV P V fuel) m n c K x F1 h1 wr1 := hk
   cases x with
   | normal =>
    obtain ⟨y, F2, h2, wr2, hk, ⟨k, hr⟩, hM2⟩ := ih true m n c F1 h1 wr1 K (Nat.le_trans hm hM.le) hk
    refine ⟨y, F2, h2, wr2, hk, ⟨k + 1, fun w X σ tmps hI hF => ?_⟩, hM.trans hM2⟩
    rw [rounds_succ]
    refine wp_mono (hc w X σ tmps hI hF) fun e a' w' hq => ?_
    obtain ⟨hd, x1, F', h', σ', hx1, ⟨e1, e2, e3⟩, hI', hF', hS⟩ := hq
    subst e1; subst e2; subst e3
    obtain ⟨t2, ds⟩ := a'
    have hd : ds = [] := hd
    subst hd
    cases e <;> cases hx1
    exact (rounds_mono fun e a w h => SPost.from hS h) (hr w' X σ' t2 hI' hF')
   | exit i =>
    refine ⟨.exit i, F1, h1, wr1, hk, ⟨1, fun w X σ tmps hI hF => ?_⟩, hM⟩
    rw [rounds_succ]
    refine wp_mono (hc w X σ tmps hI hF) fun e a' w' hq => ?_
    obtain ⟨hd, x1, F', h', σ', hx1, ⟨e1, e2, e3⟩, hI', hF', hS⟩ := hq
    subst e1; subst e2; subst e3
    cases e <;> cases hx1
    exact ⟨hd, _, _, _, σ', rfl, ⟨rfl, rfl, rfl⟩, hI', hF', hS⟩
   | ret =>
    refine ⟨.ret, F1, h1, wr1, hk, ⟨1, fun w X σ tmps hI hF => ?_⟩, hM⟩
    rw [rounds_succ]
    refine wp_mono (hc w X σ tmps hI hF) fun e a' w' hq => ?_
    obtain ⟨hd, x1, F', h', σ', hx1, ⟨e1, e2, e3⟩, hI', hF', hS⟩ := hq
    subst e1; subst e2; subst e3
    cases e <;> cases hx1
    exact ⟨hd, _, _, _, σ', rfl, ⟨rfl, rfl, rfl⟩, hI', hF', hS⟩
theorem callV_sound (hV : EnvOK P V) (fuel : Nat) {f : FuncId} {l : List SV} {H : HW} {K : KV3} (hk : callsV P V (runV P V fuel) f l H K) : ∃ s H' wc, K s H' wc /\ Chg H.view H'.view wc /\ H.view.length <= H'.view.length /\ CallGd P f l H.view s H'.view :=
 callsV_sound hV (runV_sound hV fuel) hk
end
end Go.Sx

namespace Go.Sx
section
variable {P : Program} {T : Tab}
theorem upd_ext {α : Type} (l : List (Nat × α)) : ∀ {h : List α} {r : Nat}, (∀ p ∈ l, p.1 ≠ r) -> (l.foldl (fun h p => h.set p.1 p.2) h)[r]? = h[r]? := by
 induction l with
 | nil => intro h r _; rfl
 | cons p l ih =>
  intro h r hr
  rw [List.foldl_cons, ih fun q hq => hr q (by simp [hq]), List.getElem?_set, if_neg (hr p (by simp))]
theorem upd_hit {α : Type} (l : List (Nat × α)) : ∀ {h : List α}, (l.map (·.1)).Nodup -> ∀ p ∈ l, p.1 < h.length -> (l.foldl (fun h p => h.set p.1 p.2) h)[p.1]? = some p.2 := by
 induction l with
 | nil => intro h _ p hp; simp at hp
 | cons q l ih =>
  intro h hn p hp hlt
  rw [List.map_cons, List.nodup_cons] at hn
  rw [List.foldl_cons]
  rcases List.mem_cons.1 hp with rfl | hp
  ·rw [upd_ext l fun r hr he => hn.1 (by rw [<- he]; exact List.mem_map.2 ⟨r, hr, rfl⟩), List.getElem?_set, if_pos rfl, if_pos hlt]
  ·exact ih (h := h.set q.1 q.2) hn.2 p hp (by simpa using hlt)
theorem upd_size {α : Type} (l : List (Nat × α)) : ∀ {h : List α}, (l.foldl (fun h p => h.set p.1 p.2) h).length = h.length := by
 induction l with
 | nil => intro h; rfl
 | cons p l ih => intro h; rw [List.foldl_cons, ih]; simp
theorem OSpec.run {f : FuncId} {args args' : List SV} {hin : Hp} {R : SV -> Hp -> Prop} (hs : OSpec P f args hin R) {ρ : List Nat} {h : Hp} (hn : ρ.Nodup) (ha : argsK ρ args args' True) (hh : insK h ρ hin True)
  {w : World} {X : Nat -> Prop} {σ : Sg} {h2 : Hp} {vs : List Value} (hI : Inv w X σ h2) (hag : ∀ j ∈ ρ, h2[j]? = h[j]?) (hr : RepL w (Ex X σ) σ args' vs) :
  DoneS P (callFunc f vs.toArray) w fun v w' => ∃ s ho σ', R s ho /\ FreeSV s /\ Rep w' (Ex X σ') σ' s v /\ Inv w' X σ' (back ρ ho h2) /\ Step σ.length w σ w' σ' := by
 obtain ⟨_, hlen, hins⟩ := insK_sound ρ hh
 have hin2 : ∀ (i j : Nat) (b : Blk), ρ[i]? = some j -> hin[i]? = some b -> h2[j]? = some b := fun i j b hi hb => by rw [hag j (List.mem_of_getElem? hi)]; exact hins i j b hi hb
 have hlt : ∀ j ∈ ρ, j < σ.length := by
  intro j hj
  obtain ⟨i, hi⟩ := List.mem_iff_getElem?.1 hj
  have hil : i < hin.length := by rw [<- hlen]; exact (List.getElem?_eq_some_iff.1 hi).1
  rw [hI.len]
  exact (List.getElem?_eq_some_iff.1 (hin2 i j _ hi (List.getElem?_eq_getElem hil))).1
 have hpg : ∀ (i : Nat) (e : Ent), (pickSg σ ρ)[i]? = some e -> ∃ j, ρ[i]? = some j /\ σ[j]? = some e := by
  intro i e he
  simp only [pickSg, List.getElem?_map] at he
  cases hj : ρ[i]? with
  | none => rw [hj] at he; simp at he
  | some j =>
   rw [hj] at he
   simp at he
   have := hlt j (List.mem_of_getElem? hj)
   refine ⟨j, rfl, ?_⟩
   rw [<- he]
   simp [List.getElem?_eq_getElem this]
 have hgp : ∀ (i j : Nat) (e : Ent), ρ[i]? = some j -> σ[j]? = some e -> (pickSg σ ρ)[i]? = some e := by
  intro i j e hi he
  simp [pickSg, hi, List.getD, he]
 have hpo : ∀ g, Owned (pickSg σ ρ) g -> Owned σ g := fun g ⟨i, e, he, hg⟩ => by
  obtain ⟨j, _, hj⟩ := hpg i e he
  exact ⟨j, e, hj, hg⟩
 -- what the callee must leave alone: all that the caller owns and does not hand over
 let X0 : Nat -> Prop := fun g => Ex X σ g /\ ¬ Owned (pickSg σ ρ) g
 have hEx : ∀ g, Ex X0 (pickSg σ ρ) g ↔ Ex X σ g := fun g => by
  constructor
  ·rintro (⟨h1, _⟩ | h1)
   ·exact h1
   ·exact .inr (hpo g h1)
  ·intro h1
   by_cases h2 : Owned (pickSg σ ρ) g
   ·exact .inr h2
   ·exact .inl ⟨h1, h2⟩
 have hlt0 : ∀ g, Ex X σ g -> g < w.heap.size := fun g hx => hx.elim (hI.xlt g) fun ⟨i, e, he, hg⟩ => hI.lt i e g he hg
 have hidx : ∀ (i i' j : Nat), ρ[i]? = some j -> ρ[i']? = some j -> i = i' := by
  intro i i' j hi hi'
  exact (List.getElem?_inj (List.getElem?_eq_some_iff.1 hi).1 hn).1 (hi.trans hi'.symm)
 have hI0 : Inv w X0 (pickSg σ ρ) hin := by
  refine ⟨by simp [pickSg, hlen], fun i b e hb he => ?_, fun i e g he hg => ?_, fun i i' e e' g he he' hg hg' => ?_, fun g hx => hx.2, fun g hx => hlt0 g hx.1⟩
  ·obtain ⟨j, hj, he⟩ := hpg i e he
   exact (hI.ok j b e (hin2 i j b hj hb) he).free (hs.fin b (List.mem_of_getElem? hb)) fun g hx => (hEx g).1 hx
  ·obtain ⟨j, _, he⟩ := hpg i e he
   exact hI.lt j e g he hg
  ·obtain ⟨j, hj, he⟩ := hpg i e he
   obtain ⟨j', hj', he'⟩ := hpg i' e' he'
   have := hI.inj j j' e e' g he he' hg hg'
   subst this
   exact hidx i i' j hj hj'
 have hr0 := (argsK_sound args ha).2 w (Ex X σ) (Ex X0 (pickSg σ ρ)) σ vs (fun g hx => (hEx g).1 hx) hlt hr
 refine (hs.ok w X0 (pickSg σ ρ) vs hI0 hr0).mono fun v w' ⟨s, ho, σ0, hR, hol, hfs, hfb, hrep, hI1, hS⟩ => ?_
 have hσ0l : σ0.length = ρ.length := by rw [hI1.len, hol, hlen]
 have hmapz : (ρ.zip σ0).map (·.1) = ρ := by rw [List.map_fst_zip]; omega
 have hmapb : (ρ.zip ho).map (·.1) = ρ := by rw [List.map_fst_zip]; omega
 let σ' : Sg := (ρ.zip σ0).foldl (fun h p => h.set p.1 p.2) σ
 have hl' : σ'.length = σ.length := upd_size _
 have hnot : ∀ i, i ∉ ρ -> σ'[i]? = σ[i]? := fun i hi => upd_ext _ fun p hp he => hi (by rw [<- he, <- hmapz]; exact List.mem_map.2 ⟨p, hp, rfl⟩)
 have hnotb : ∀ i, i ∉ ρ -> (back ρ ho h2)[i]? = h2[i]? := fun i hi => upd_get _ fun p hp he => hi (by rw [<- he, <- hmapb]; exact List.mem_map.2 ⟨p, hp, rfl⟩)
 have hhit : ∀ (i j : Nat) (e : Ent), ρ[i]? = some j -> σ0[i]? = some e -> σ'[j]? = some e := fun i j e hi he => by
  have hm : (j, e) ∈ ρ.zip σ0 := List.mem_of_getElem? (i := i) (by rw [List.getElem?_zip_eq_some]; exact ⟨hi, he⟩)
  exact upd_hit _ (by rw [hmapz]; exact hn) (j, e) hm (hlt j (List.mem_of_getElem? hi))
 have hhitb : ∀ (i j : Nat) (b : Blk), ρ[i]? = some j -> ho[i]? = some b -> (back ρ ho h2)[j]? = some b := fun i j b hi hb => by
  have hm : (j, b) ∈ ρ.zip ho := List.mem_of_getElem? (i := i) (by rw [List.getElem?_zip_eq_some]; exact ⟨hi, hb⟩)
  exact upd_at _ (by rw [hmapb]; exact hn) (j, b) hm (by rw [<- hI.len]; exact hlt j (List.mem_of_getElem? hi))
 have hwho : ∀ (i : Nat) (e : Ent), σ'[i]? = some e -> (i ∉ ρ /\ σ[i]? = some e) ∨ (∃ k : Nat, ρ[k]? = some i /\ σ0[k]? = some e) := by
  intro i e he
  by_cases hi : i ∈ ρ
  ·obtain ⟨k, hk⟩ := List.mem_iff_getElem?.1 hi
   have hkl : k < σ0.length := by rw [hσ0l]; exact (List.getElem?_eq_some_iff.1 hk).1
   have := hhit k i _ hk (List.getElem?_eq_getElem hkl)
   rw [this] at he
   exact .inr ⟨k, hk, by rw [<- he]; exact List.getElem?_eq_getElem hkl⟩
  ·rw [hnot i hi] at he; exact .inl ⟨hi, he⟩
 have hσlt : ∀ (i : Nat) (e : Ent) (g : Nat), i ∉ ρ -> σ[i]? = some e -> e.blk = some g -> X0 g := by
  intro i e g hi he hg
  refine ⟨.inr ⟨i, e, he, hg⟩, fun ⟨k, e', he', hg'⟩ => ?_⟩
  obtain ⟨j, hj, he'⟩ := hpg k e' he'
  have := hI.inj i j e e' g he he' hg hg'
  subst this
  exact hi (List.mem_of_getElem? hj)
 have hE' : ∀ g, Ex X σ' g -> Ex X0 σ0 g := by
  rintro g (hx | ⟨i, e, he, hg⟩)
  ·exact .inl ⟨.inl hx, fun ho => hI.dis g hx (hpo g ho)⟩
  ·rcases hwho i e he with ⟨hi, he⟩ | ⟨k, hk, he⟩
   ·exact .inl (hσlt i e g hi he hg)
   ·exact .inr ⟨k, e, he, hg⟩
 have hS' : Step σ.length w σ w' σ' := by
  refine ⟨hS.os, hS.tape, hS.output, hS.size, fun g hg ho => hS.frame g hg fun h => ho (hpo g h), fun g ⟨i, e, he, hg⟩ hlt' => ?_, fun i e hi he hf => ?_⟩
  ·rcases hwho i e he with ⟨_, he⟩ | ⟨k, hk, he⟩
   ·exact ⟨i, e, he, hg⟩
   ·exact hpo g (hS.blks g ⟨k, e, he, hg⟩ hlt')
  ·by_cases hi' : i ∈ ρ
   ·obtain ⟨k, hk⟩ := List.mem_iff_getElem?.1 hi'
    have hkl : k < hin.length := by rw [<- hlen]; exact (List.getElem?_eq_some_iff.1 hk).1
    exact (hS.ents k e hkl (hgp k i e hk he) hf).imp (hhit k i _ hk) (hhit k i _ hk)
   ·rw [hnot i hi']; exact .inl he
 refine ⟨s, ho, σ', hR, hfs, hrep.le hE' σ', ⟨by rw [hl', hI.len]; exact (upd_len _).symm, fun i b e hb he => ?_, fun i e g he hg => ?_, fun i j e e' g hi hj hg hg' => ?_, fun g hx hown => ?_, fun g hx => Nat.lt_of_lt_of_le (hI.xlt g hx) hS.size⟩, hS'⟩
 ·rcases hwho i e he with ⟨hi, he⟩ | ⟨k, hk, he⟩
  ·rw [hnotb i hi] at hb
   refine (hI.ok i b e hb he).step hS' (Nat.le_refl _) fun g hg => hS.frame g (hI.lt i e g he hg) fun hown => (hσlt i e g hi he hg).2 hown
  ·have hkl : k < ho.length := by rw [hol, <- hlen]; exact (List.getElem?_eq_some_iff.1 hk).1
   rw [hhitb k i _ hk (List.getElem?_eq_getElem hkl)] at hb
   simp at hb
   subst hb
   exact (hI1.ok k _ e (List.getElem?_eq_getElem hkl) he).free (hfb _ (List.getElem_mem hkl)) hE'
 ·rcases hwho i e he with ⟨_, he⟩ | ⟨k, hk, he⟩
  ·exact Nat.lt_of_lt_of_le (hI.lt i e g he hg) hS.size
  ·exact hI1.lt k e g he hg
 ·rcases hwho i e hi with ⟨hir, hie⟩ | ⟨k, hk, hke⟩
  ·rcases hwho j e' hj with ⟨hjr, hje⟩ | ⟨l, hl, hle⟩
   ·exact hI.inj i j e e' g hie hje hg hg'
   ·exact absurd ⟨l, e', hle, hg'⟩ (hI1.dis g (hσlt i e g hir hie hg))
  ·rcases hwho j e' hj with ⟨hjr, hje⟩ | ⟨l, hl, hle⟩
   ·exact absurd ⟨k, e, hke, hg⟩ (hI1.dis g (hσlt j e' g hjr hje hg'))
   ·have := hI1.inj k l e e' g hke hle hg hg'
    subst this
    rw [hk] at hl
    exact Option.some.inj hl
 ·obtain ⟨i, e, he, hg⟩ := hown
  rcases hwho i e he with ⟨_, he⟩ | ⟨k, hk, he⟩
  ·exact hI.dis g hx ⟨i, e, he, hg⟩
  ·exact hI1.dis g ⟨.inl hx, fun ho => hI.dis g hx (hpo g ho)⟩ ⟨k, e, he, hg⟩
theorem OSpec.call {f : FuncId} {args args' : List SV} {hin : Hp} {R : SV -> Hp -> Prop} (hs : OSpec P f args hin R) (ρ : List Nat) (hn : ρ.Nodup) {h : Hp} {K : SV -> Hp -> Prop}
  (ha : argsK ρ args args' True) (hh : insK h ρ hin True) (hk : ∀ s ho, R s ho -> backK ρ ho h (K s)) : CallG P f args' h K :=
 ⟨fun _ _ _ _ hI hr => (hs.run hn ha hh hI (fun _ _ => rfl) hr).mono fun _ _ ⟨s, ho, σ', hR, _, hrep, hI', hS⟩ => ⟨s, _, σ', backK_sound ρ (hk s ho hR), hrep, hI', hS⟩⟩
theorem OSpec.calld {f : FuncId} {args args' : List SV} {hin : Hp} {s : SV} {ho : Hp} (hs : OSpec P f args hin fun s' ho' => s' = s /\ ho' = ho) (ρ : List Nat) (hn : ρ.Nodup) {h : Hp} {nid : Nat} {K : Kop}
  (hl : ho.length = ρ.length) (ha : argsK ρ args args' True) (hh : insK h ρ hin True) (hk : K s (ρ.zip ho) ρ) : CallD P f args' h nid K :=
 ⟨s, ρ.zip ho, ρ, hk, ⟨fun _ _ _ _ _ hI hr hag => (hs.run hn ha hh hI hag hr).mono fun _ _ ⟨s', ho', σ', ⟨e1, e2⟩, _, hrep, hI', hS⟩ => by
  subst e1; subst e2
  exact ⟨σ', hrep, hI', hS, by rw [hI'.len, hI.len]; exact upd_len _⟩, fun p hp => (List.of_mem_zip hp).1⟩⟩
end
end Go.Sx

namespace Go.Sx
section
variable {P : Program} {V : Env}
def BOK (P : Program) (h0 : Hp) (c : Code) (F : Fr) (h : Hp) (K : Post) : Prop :=
 ∀ (w0 : World) (X : Nat -> Prop) (σ0 : Sg) (w : World) (σ : Sg) (tmps : Array Value), Inv w0 X σ0 h0 -> Step h0.length w0 σ0 w σ -> Inv w X σ h -> FRep w (Ex X σ) σ F tmps -> c.wp P (SPost h0.length X w0 σ0 K) ⟨tmps, []⟩ w
def BRounds (P : Program) (h0 : Hp) (c : Code) (n : Nat) (F : Fr) (h : Hp) (K : Post) : Prop :=
 ∀ (w0 : World) (X : Nat -> Prop) (σ0 : Sg) (w : World) (σ : Sg) (tmps : Array Value), Inv w0 X σ0 h0 -> Step h0.length w0 σ0 w σ -> Inv w X σ h -> FRep w (Ex X σ) σ F tmps -> Code.rounds P c (SPost h0.length X w0 σ0 K) n ⟨tmps, []⟩ w
theorem BOK.mono {h0 : Hp} {c : Code} {F : Fr} {h : Hp} {K K' : Post} (hs : BOK P h0 c F h K) (hk : ∀ x F h, K x F h -> K' x F h) : BOK P h0 c F h K' :=
 fun w0 X σ0 w σ tmps h1 h2 h3 h4 => wp_mono (hs w0 X σ0 w σ tmps h1 h2 h3 h4) fun _ _ _ => SPost.mono hk
theorem BOK.of {m : Nat} {h0 : Hp} {c : Code} {F : Fr} {h : Hp} {K : Post} (hm : h0.length <= m) (hs : SOK P m c F h K) : BOK P h0 c F h K :=
 fun w0 X σ0 w σ tmps _ h2 h3 h4 => wp_mono (hs w X σ tmps h3 h4) fun e a w' ⟨hd, x, F', h', σ', hx, hk, hI, hF, hS⟩ => ⟨hd, x, F', h', σ', hx, hk, hI, hF, h2.trans (hS.le hm)⟩
theorem BOK.seq {h0 : Hp} {a b : Code} {F : Fr} {h : Hp} {K : Post}
  (hs : BOK P h0 a F h fun x F h => match x with | .normal => BOK P h0 b F h K | .exit i => K (.exit i) F h | .ret => K .ret F h) : BOK P h0 (.seq a b) F h K := by
 intro w0 X σ0 w σ tmps h1 h2 h3 h4
 refine wp_seq (wp_mono (hs w0 X σ0 w σ tmps h1 h2 h3 h4) fun e a' w' hq => ?_)
 obtain ⟨hd, x, F', h', σ', hx, hk, hI', hF', hS⟩ := hq
 obtain ⟨tmps', ds⟩ := a'
 have hd : ds = [] := hd
 subst hd
 cases e <;> cases hx
 case normal => exact hk w0 X σ0 w' σ' tmps' h1 hS hI' hF'
 case exit id => exact ⟨rfl, .exit id, F', h', σ', rfl, hk, hI', hF', hS⟩
 case ret => exact ⟨rfl, .ret, F', h', σ', rfl, hk, hI', hF', hS⟩
theorem BOK.block {h0 : Hp} {id : Nat} {c : Code} {F : Fr} {h : Hp} {K : Post}
  (hs : BOK P h0 c F h fun x F h => match x with | .normal => K .normal F h | .exit i => (match Nat.beq i id with | true => K .normal F h | false => K (.exit i) F h) | .ret => K .ret F h) : BOK P h0 (.block id c) F h K := by
 intro w0 X σ0 w σ tmps h1 h2 h3 h4
 refine wp_block (wp_mono (hs w0 X σ0 w σ tmps h1 h2 h3 h4) fun e a' w' hq => ?_)
 obtain ⟨hd, x, F', h', σ', hx, hk, hI', hF', hS⟩ := hq
 cases e <;> cases hx
 case normal => exact ⟨hd, .normal, F', h', σ', rfl, hk, hI', hF', hS⟩
 case ret => exact ⟨hd, .ret, F', h', σ', rfl, hk, hI', hF', hS⟩
 case exit i =>
  simp only [Exit.inBlock]
  by_cases hi : i = id
  ·subst hi
   rw [if_pos rfl]
   have hb : Nat.beq i i = true := Nat.beq_refl i
   simp only [hb] at hk
   exact ⟨hd, .normal, F', h', σ', rfl, hk, hI', hF', hS⟩
  ·rw [if_neg hi]
   have hb : Nat.beq i id = false := by
    cases hc : Nat.beq i id with
    | true => exact absurd (Nat.eq_of_beq_eq_true hc) hi
    | false => rfl
   simp only [hb] at hk
   exact ⟨hd, .exit i, F', h', σ', rfl, hk, hI', hF', hS⟩
theorem BOK.loop {h0 : Hp} {c : Code} {F : Fr} {h : Hp} {K : Post} {n : Nat} (hs : BRounds P h0 c n F h K) : BOK P h0 (.loop c) F h K :=
 fun w0 X σ0 w σ tmps h1 h2 h3 h4 => wp_loop_rounds n (hs w0 X σ0 w σ tmps h1 h2 h3 h4)
theorem BRounds.step {h0 : Hp} {c : Code} {F : Fr} {h : Hp} {K : Post} {n : Nat}
  (hs : BOK P h0 c F h fun x F h => match x with | .normal => BRounds P h0 c n F h K | .exit i => K (.exit i) F h | .ret => K .ret F h) : BRounds P h0 c (n + 1) F h K := by
 intro w0 X σ0 w σ tmps h1 h2 h3 h4
 rw [rounds_succ]
 refine wp_mono (hs w0 X σ0 w σ tmps h1 h2 h3 h4) fun e a' w' hq => ?_
 obtain ⟨hd, x, F', h', σ', hx, hk, hI', hF', hS⟩ := hq
 obtain ⟨tmps', ds⟩ := a'
 have hd : ds = [] := hd
 subst hd
 cases e <;> cases hx
 case normal => exact hk w0 X σ0 w' σ' tmps' h1 hS hI' hF'
 case exit id => exact ⟨rfl, .exit id, F', h', σ', rfl, hk, hI', hF', hS⟩
 case ret => exact ⟨rfl, .ret, F', h', σ', rfl, hk, hI', hF', hS⟩
def Goes (h0 : Hp) (F : Fr) (h : Hp) (F' : Fr) (h' : Hp) : Prop :=
 ∀ (w0 : World) (X : Nat -> Prop) (σ0 : Sg) (w : World) (σ : Sg) (tmps : Array Value), Inv w0 X σ0 h0 -> Step h0.length w0 σ0 w σ -> Inv w X σ h -> FRep w (Ex X σ) σ F tmps -> ∃ σ', Step h0.length w0 σ0 w σ' /\ Inv w X σ' h' /\ FRep w (Ex X σ') σ' F' tmps
theorem Goes.trans {h0 : Hp} {F F' F'' : Fr} {h h' h'' : Hp} (a : Goes h0 F h F' h') (b : Goes h0 F' h' F'' h'') : Goes h0 F h F'' h'' := fun w0 X σ0 w σ tmps h1 h2 h3 h4 => by
 obtain ⟨σ', h2, h3, h4⟩ := a w0 X σ0 w σ tmps h1 h2 h3 h4
 exact b w0 X σ0 w σ' tmps h1 h2 h3 h4
theorem BRounds.goes {h0 : Hp} {c : Code} {n : Nat} {F F' : Fr} {h h' : Hp} {K : Post} (hg : Goes h0 F h F' h') (hs : BRounds P h0 c n F' h' K) : BRounds P h0 c n F h K := fun w0 X σ0 w σ tmps h1 h2 h3 h4 => by
 obtain ⟨σ', h2, h3, h4⟩ := hg w0 X σ0 w σ tmps h1 h2 h3 h4
 exact hs w0 X σ0 w σ' tmps h1 h2 h3 h4
noncomputable def liveK (n : Nat) (F : FW) (l : List Nat) : (List SV -> Prop) -> Prop :=
 List.rec (motive := fun _ => (List SV -> Prop) -> Prop) (fun k => k []) (fun t _ ih k => getF n F t fun s => ih fun r => k (s :: r)) l
theorem liveK_sound {n : Nat} {F : FW} (l : List Nat) : ∀ {k : List SV -> Prop}, liveK n F l k -> ∃ ss, k ss /\ ss.length = l.length /\ ∀ (i t : Nat) (s : SV), l[i]? = some t -> ss[i]? = some s -> (viewF n F)[t]? = some s := by
 induction l with
 | nil => intro k h; exact ⟨[], h, rfl, by simp⟩
 | cons t l ih =>
  intro k h
  have h : getF n F t (fun s => liveK n F l fun r => k (s :: r)) := h
  rw [getF_eq] at h
  obtain ⟨s, hs, h⟩ := nthK_sound h
  obtain ⟨r, h, hl, hr⟩ := ih h
  refine ⟨s :: r, h, by simp [hl], fun i t' s' h1 h2 => ?_⟩
  cases i with
  | zero => simp at h1 h2; subst h1; subst h2; exact hs
  | succ i => exact hr i t' s' (by simpa using h1) (by simpa using h2)
noncomputable def tidyV (n m : Nat) (H0 : HW) (live : List Nat) (F : FW) (H : HW) (wr : List Nat) (k : List SV -> HW -> Prop) : Prop :=
 List.rec (motive := fun _ => Prop) (liveK n F live fun ss => gcW m H0 H [] (.tup ss) fun s H' => match s with | .tup ss' => k ss' H' | _ => False) (fun _ _ _ => False) wr
theorem frep_sets {w : World} {E : Nat -> Prop} {σ : Sg} {tmps : Array Value} (sp : List (Nat × SV)) : ∀ {F : Fr}, FRep w E σ F tmps -> (∀ p ∈ sp, ∀ v, tmps[p.1]? = some v -> Rep w E σ p.2 v) -> FRep w E σ (sp.foldl (fun F p => F.set p.1 p.2) F) tmps := by
 induction sp with
 | nil => intro F h _; exact h
 | cons p sp ih =>
  intro F h hp
  refine ih ⟨by simp [h.1], fun i s v hs hv => ?_⟩ fun q hq => hp q (by simp [hq])
  rw [List.getElem?_set] at hs
  by_cases hi : p.1 = i
  ·subst hi
   rw [if_pos rfl] at hs
   split at hs
   ·simp at hs; subst hs; exact hp p (by simp) v hv
   ·simp at hs
  ·rw [if_neg hi] at hs
   exact h.2 i s v hs hv
theorem frep_mk {w : World} {E : Nat -> Prop} {σ : Sg} {tmps : Array Value} {n : Nat} (hn : tmps.size = n) {sp : List (Nat × SV)} (hp : ∀ p ∈ sp, ∀ v, tmps[p.1]? = some v -> Rep w E σ p.2 v) : FRep w E σ (mkFr n sp) tmps := by
 refine frep_sets sp ⟨by simp [hn], fun i s v hs _ => ?_⟩ hp
 rw [List.getElem?_replicate] at hs
 split at hs
 ·simp at hs; subst hs; exact .any
 ·simp at hs
theorem tidy_sound {n m : Nat} {H0 : HW} {live : List Nat} {F : FW} {H : HW} {wr : List Nat} {k : List SV -> HW -> Prop} {h : Hp} (hn : n <= 256) (hm : m = H0.view.length) (hk : tidyV n m H0 live F H wr k) (hM : Moved m h [] H.view wr) (h0 : ∀ i, i < m -> h[i]? = H0.view[i]?) :
  ∃ ss H', k ss H' /\ (∀ i, i < m -> H'.view[i]? = H0.view[i]?) /\ Goes H0.view (viewF n F) H.view (mkFr n (live.zip ss)) H'.view := by
 cases wr with
 | cons _ _ => exact (show False from hk).elim
 | nil =>
  obtain ⟨ss, hk, hsl, hss⟩ := liveK_sound live (show liveK n F live _ from hk)
  have hc : Chg H0.view H.view [] := fun i hi hn => (hM.same i (by omega) hn).trans (h0 i (by omega))
  obtain ⟨s', H'', h'', hv, hk, hchg, _, hgc⟩ := gcW_sound rfl rfl hm hk hc
  subst hv
  cases s' with
  | tup ss' =>
   refine ⟨ss', H'', hk, fun i hi => hchg i (by omega) (by simp), fun w0 X σ0 w σ tmps h1 h2 h3 h4 => ?_⟩
   have hlen : σ0.length = H0.view.length := h1.len
   rw [<- hlen] at h2
   have hvl : ∀ (i t : Nat), live[i]? = some t -> t < tmps.size := fun i t ht => by
    have hi : i < ss.length := by rw [hsl]; exact (List.getElem?_eq_some_iff.1 ht).1
    have := hss i t _ ht (List.getElem?_eq_getElem hi)
    rw [<- h4.1]; exact (List.getElem?_eq_some_iff.1 this).1
   have hr : Rep w (Ex X σ) σ (.tup ss) (.tuple (live.map fun t => tmps.getD t Go.undef).toArray) := by
    refine .tup (by simp [hsl]) fun i s v hs hv => ?_
    rw [List.getElem?_toArray, List.getElem?_map] at hv
    obtain ⟨t, ht, rfl⟩ := Option.map_eq_some_iff.1 hv
    have hs' := hss i t s ht hs
    have hlt := hvl i t ht
    exact h4.2 t s _ hs' (by rw [Array.getElem?_eq_getElem hlt]; simp [Array.getD, hlt])
   obtain ⟨σ'', a1, a2, a3⟩ := hgc w0 w X σ0 σ _ h1 h3 hr h2
   rw [hlen] at a3
   refine ⟨σ'', a3, a2, frep_mk (by rw [<- h4.1]; simp [viewF, vw_len]; omega) fun p hp v hv => ?_⟩
   cases a1 with
   | tup hl hc' =>
    obtain ⟨i, hi⟩ := List.mem_iff_getElem?.1 hp
    rw [List.getElem?_zip_eq_some] at hi
    obtain ⟨i1, i2⟩ := hi
    refine hc' i p.2 v i2 ?_
    rw [List.getElem?_toArray, List.getElem?_map, i1]
    have hlt := hvl i p.1 i1
    rw [Array.getElem?_eq_getElem hlt] at hv
    simp at hv
    simp [Array.getD, hlt, hv]
  | _ => exact hk.elim
end
end Go.Sx

namespace Go.Sx
section
def SW (s s' : SV) : Prop := ∀ (w : World) (E : Nat -> Prop) (σ : Sg) (v : Value), Rep w E σ s v -> Rep w E σ s' v
theorem SW.refl {s : SV} : SW s s := fun _ _ _ _ h => h
theorem SW.bs {q : IntKind} {N c lo hi N' c' lo' hi' : Int} (h : N + c = N' + c') (h1 : lo' <= N' + c') (h2 : N' + c' <= hi') : SW (.bs q N c lo hi) (.bs q N' c' lo' hi') := fun w E σ v hr => by
 obtain ⟨rfl, _, _⟩ := bs_inv hr
 rw [h]; exact .bs h1 h2
theorem SW.bsI {q : IntKind} {N c lo hi n : Int} (h : N + c = n) : SW (.bs q N c lo hi) (.int q n) := fun w E σ v hr => by
 obtain ⟨rfl, _, _⟩ := bs_inv hr
 rw [h]; exact .int
theorem SW.intB {q : IntKind} {N c lo hi n : Int} (h : n = N + c) (h1 : lo <= N + c) (h2 : N + c <= hi) : SW (.int q n) (.bs q N c lo hi) := fun w E σ v hr => by
 cases hr; rw [h]; exact .bs h1 h2
theorem SW.bool {a b : Bool} (h : a = b) : SW (.bool a) (.bool b) := by subst h; exact .refl
theorem SW.ttB {b : Bool} (h : b = true) : SW .tt (.bool b) := fun w E σ v hr => by subst h; cases hr; exact .bool
theorem SW.ffB {b : Bool} (h : b = false) : SW .ff (.bool b) := fun w E σ v hr => by subst h; cases hr; exact .bool
theorem SW.bTT {b : Bool} (h : b = true) : SW (.bool b) .tt := fun w E σ v hr => by subst h; cases hr; exact .tt
inductive SWs : List SV -> List SV -> Prop where
 | nil : SWs [] []
 | cons {a b : SV} {l l' : List SV} (h : SW a b) (t : SWs l l') : SWs (a :: l) (b :: l')
theorem SWs.refl : ∀ {l : List SV}, SWs l l
 | [] => .nil
 | _ :: _ => .cons .refl SWs.refl
theorem SWs.len {l l' : List SV} (h : SWs l l') : l.length = l'.length := by induction h <;> simp [*]
theorem SWs.get {l l' : List SV} (h : SWs l l') : ∀ (i : Nat) (s' : SV), l'[i]? = some s' -> ∃ s, l[i]? = some s /\ SW s s' := by
 induction h with
 | nil => intro i s' h; simp at h
 | cons h t ih =>
  intro i s' hi
  cases i with
  | zero => simp at hi; subst hi; exact ⟨_, rfl, h⟩
  | succ i => exact ih i s' (by simpa using hi)
theorem SWs.append {a a' b b' : List SV} (h : SWs a a') (k : SWs b b') : SWs (a ++ b) (a' ++ b') := by
 induction h with
 | nil => exact k
 | cons h _ ih => exact .cons h ih
theorem SWs.map {α : Type} {f g : α -> SV} {l : List α} (h : ∀ x ∈ l, SW (f x) (g x)) : SWs (l.map f) (l.map g) := by
 induction l with
 | nil => exact .nil
 | cons x l ih => exact .cons (h x (by simp)) (ih fun y hy => h y (by simp [hy]))
theorem SW.agg {l l' : List SV} (h : SWs l l') : SW (.agg l) (.agg l') := fun w E σ v hr => by
 cases hr with
 | agg hl h1 hc =>
  refine .agg (by rw [<- h.len]; exact hl) h1 fun i s' v hs hv => ?_
  obtain ⟨s, hs0, hw⟩ := h.get i s' hs
  exact hw _ _ _ _ (hc i s v hs0 hv)
inductive RWs : List (List SV) -> List (List SV) -> Prop where
 | nil : RWs [] []
 | cons {a b : List SV} {l l' : List (List SV)} (h : SWs a b) (t : RWs l l') : RWs (a :: l) (b :: l')
theorem RWs.refl : ∀ {l : List (List SV)}, RWs l l
 | [] => .nil
 | _ :: _ => .cons .refl RWs.refl
theorem RWs.len {l l' : List (List SV)} (h : RWs l l') : l.length = l'.length := by induction h <;> simp [*]
theorem RWs.get {l l' : List (List SV)} (h : RWs l l') : ∀ (i : Nat) (e' : List SV), l'[i]? = some e' -> ∃ e, l[i]? = some e /\ SWs e e' := by
 induction h with
 | nil => intro i s' h; simp at h
 | cons h t ih =>
  intro i s' hi
  cases i with
  | zero => simp at hi; subst hi; exact ⟨_, rfl, h⟩
  | succ i => exact ih i s' (by simpa using hi)
theorem RWs.append {a a' b b' : List (List SV)} (h : RWs a a') (k : RWs b b') : RWs (a ++ b) (a' ++ b') := by
 induction h with
 | nil => exact k
 | cons h _ ih => exact .cons h ih
def BW (b b' : Blk) : Prop := ∀ (w : World) (E : Nat -> Prop) (σ : Sg) (e : Ent), BlkOK w E σ b e -> BlkOK w E σ b' e
theorem BW.refl {b : Blk} : BW b b := fun _ _ _ _ h => h
theorem BW.fix {T : TypeId} {cs cs' : List SV} (h : SWs cs cs') : BW (.fix T cs) (.fix T cs') := fun w E σ e hb => by
 cases e <;> simp only [BlkOK] at hb ⊢
 obtain ⟨vs, h1, h2, h3⟩ := hb
 refine ⟨vs, h1, by rw [<- h.len]; exact h2, fun i s' v hs hv => ?_⟩
 obtain ⟨s, hs0, hw⟩ := h.get i s' hs
 exact ⟨hw _ _ _ _ (h3 i s v hs0 hv).1, (h3 i s v hs0 hv).2⟩
theorem BW.row {T : TypeId} {z : Nat} {es es' : List (List SV)} (h : RWs es es') : BW (.row T z es) (.row T z es') := fun w E σ e hb => by
 cases e <;> simp only [BlkOK] at hb ⊢
 case row =>
  obtain ⟨h1, h2, h3, h4, vs, h5, h6, h7⟩ := hb
  refine ⟨h1, by rw [<- h.len]; exact h2, h3, h4, vs, h5, h6, fun i e' he' => ?_⟩
  obtain ⟨e, he, hw⟩ := h.get i e' he'
  obtain ⟨a, b⟩ := h7 i e he
  refine ⟨by rw [<- hw.len]; exact a, fun j s' hs' => ?_⟩
  obtain ⟨s, hs, hsw⟩ := hw.get j s' hs'
  obtain ⟨v, c1, c2, c3⟩ := b j s hs
  exact ⟨v, c1, hsw _ _ _ _ c2, c3⟩
 case rownil =>
  subst hb
  exact List.eq_nil_of_length_eq_zero h.len.symm
theorem BW.gapRow {T : TypeId} {z : Nat} {N lo hi : Int} {pre es post l : List (List SV)} (h : RWs (pre ++ (es ++ post)) l) : BW (.gap T z N lo hi pre es post) (.row T z l) := fun w E σ e hb =>
 BW.row h w E σ e (gap_row hb).2
theorem BW.rowGap {T : TypeId} {z : Nat} {N lo hi : Int} {pre es post l : List (List SV)} (h : RWs l (pre ++ (es ++ post))) (h1 : lo <= N) (h2 : N <= hi) (h3 : (pre.length : Int) = N) : BW (.row T z l) (.gap T z N lo hi pre es post) := fun w E σ e hb =>
 row_gap rfl ⟨⟨h1, h2⟩, h3⟩ (BW.row h w E σ e hb)
theorem BW.gap {T : TypeId} {z : Nat} {N lo hi N' lo' hi' : Int} {pre es post pre' es' post' : List (List SV)} (h : RWs (pre ++ (es ++ post)) (pre' ++ (es' ++ post'))) (h1 : lo' <= N') (h2 : N' <= hi') (h3 : (pre'.length : Int) = N') :
  BW (.gap T z N lo hi pre es post) (.gap T z N' lo' hi' pre' es' post') := fun w E σ e hb => BW.rowGap h h1 h2 h3 w E σ e (gap_row hb).2
theorem BW.mapB1 {k k' v v' : SV} {b c : Nat} (hk : SW k k') (hv : SW v v') : BW (.mapB [(k, v, b)] c) (.mapB [(k', v', b)] c) := fun w E σ e hb => by
 cases e <;> simp only [BlkOK] at hb ⊢
 obtain ⟨ms, h1, h2, h3⟩ := hb
 refine ⟨ms, h1, h2, fun i e m he hm => ?_⟩
 match i with
 | 0 => simp at he; subst he; obtain ⟨a, b, c⟩ := h3 0 _ m rfl hm; exact ⟨hk _ _ _ _ a, hv _ _ _ _ b, c⟩
 | i + 1 => simp at he
inductive HWk : Hp -> Hp -> Prop where
 | nil : HWk [] []
 | cons {a b : Blk} {l l' : Hp} (h : BW a b) (t : HWk l l') : HWk (a :: l) (b :: l')
theorem HWk.refl : ∀ {l : Hp}, HWk l l
 | [] => .nil
 | _ :: _ => .cons .refl HWk.refl
theorem HWk.len {l l' : Hp} (h : HWk l l') : l.length = l'.length := by induction h <;> simp [*]
theorem HWk.get {l l' : Hp} (h : HWk l l') : ∀ (i : Nat) (b' : Blk), l'[i]? = some b' -> ∃ b, l[i]? = some b /\ BW b b' := by
 induction h with
 | nil => intro i s' h; simp at h
 | cons h t ih =>
  intro i s' hi
  cases i with
  | zero => simp at hi; subst hi; exact ⟨_, rfl, h⟩
  | succ i => exact ih i s' (by simpa using hi)
theorem Goes.weak {h0 : Hp} {F F' : Fr} {h h' : Hp} (hF : SWs F F') (hh : HWk h h') : Goes h0 F h F' h' := fun w0 X σ0 w σ tmps h1 h2 h3 h4 => by
 refine ⟨σ, h2, ⟨h3.len.trans hh.len, fun i b e hb he => ?_, h3.lt, h3.inj, h3.dis, h3.xlt⟩, ⟨by rw [<- hF.len]; exact h4.1, fun i s' v hs hv => ?_⟩⟩
 ·obtain ⟨b0, hb0, hw⟩ := hh.get i b hb
  exact hw _ _ _ _ (h3.ok i b0 e hb0 he)
 ·obtain ⟨s, hs0, hw⟩ := hF.get i s' hs
  exact hw _ _ _ _ (h4.2 i s v hs0 hv)
end
end Go.Sx

namespace Go.Sx
section
variable {P : Program} {V : Env}
def headsC : Nat -> Code -> List Code
 | k + 1, .seq a b => a :: headsC k b
 | _, _ => []
def tailC : Nat -> Code -> Code
 | k + 1, .seq _ b => tailC k b
 | _, c => c
theorem heads_tail : ∀ (k : Nat) (c : Code), (headsC k c).foldr Code.seq (tailC k c) = c := by
 intro k
 induction k with
 | zero => intro c; cases c <;> rfl
 | succ k ih =>
  intro c
  cases c <;> first | rfl | skip
  rename_i a b
  show Code.seq a ((headsC k b).foldr Code.seq (tailC k b)) = Code.seq a b
  rw [ih b]
noncomputable def piecesV (P : Program) (V : Env) (rec : RecV) (m n : Nat) (l : List Code) : FW -> HW -> List Nat -> PostV -> Prop :=
 List.rec (motive := fun _ => FW -> HW -> List Nat -> PostV -> Prop) (fun F H wr K => K .normal F H wr)
  (fun c _ ih F H wr K => codeV P V rec m n c F H wr fun x F H wr => match x with
   | .normal => ih F H wr K
   | .exit i => K (.exit i) F H wr
   | .ret => K .ret F H wr) l
theorem pieces_sound (hV : EnvOK P V) {fuel n : Nat} {h0 : Hp} {m : Nat} (hm : h0.length <= m) (l : List Code) : ∀ {F : FW} {H : HW} {wr : List Nat} {K : PostV}, m <= H.view.length -> piecesV P V (runV P V fuel) m n l F H wr K ->
  ∃ x F' H' wr', K x F' H' wr' /\ Moved m H.view wr H'.view wr' /\ ∀ (X : Code) (K2 : Post), (x = .normal -> BOK P h0 X (viewF n F') H'.view K2) -> (x ≠ .normal -> K2 x (viewF n F') H'.view) -> BOK P h0 (l.foldr Code.seq X) (viewF n F) H.view K2 := by
 induction l with
 | nil =>
  intro F H wr K _ hk
  exact ⟨.normal, F, H, wr, hk, .refl, fun X K2 h1 _ => h1 rfl⟩
 | cons c l ih =>
  intro F H wr K hle hk
  obtain ⟨x, F1, H1, wr1, hk, hc, hM⟩ := codeV_sound hV (runV_sound hV fuel) c hle (show codeV P V (runV P V fuel) m n c F H wr _ from hk)
  cases x with
  | normal =>
   obtain ⟨x2, F2, H2, wr2, hk, hM2, h2⟩ := ih (Nat.le_trans hle hM.le) (show piecesV P V (runV P V fuel) m n l F1 H1 wr1 K from hk)
   refine ⟨x2, F2, H2, wr2, hk, hM.trans hM2, fun X K2 a1 a2 => BOK.seq ((BOK.of hm hc).mono fun y F' h' e => ?_)⟩
   obtain ⟨e1, e2, e3⟩ := e
   subst e1; subst e2; subst e3
   exact h2 X K2 a1 a2
  | exit i =>
   refine ⟨.exit i, F1, H1, wr1, hk, hM, fun X K2 _ a2 => BOK.seq ((BOK.of hm hc).mono fun y F' h' e => ?_)⟩
   obtain ⟨e1, e2, e3⟩ := e
   subst e1; subst e2; subst e3
   exact a2 (by simp)
  | ret =>
   refine ⟨.ret, F1, H1, wr1, hk, hM, fun X K2 _ a2 => BOK.seq ((BOK.of hm hc).mono fun y F' h' e => ?_)⟩
   obtain ⟨e1, e2, e3⟩ := e
   subst e1; subst e2; subst e3
   exact a2 (by simp)
theorem done_of_bok {f : FuncId} {fn : Func} {c : Code} (hf : P.funcs[f]? = some fn) (hn : (fn.name == "runtime.NumGoroutine") = false) (hb : fn.body = some c) {t : Nat} (hres : fn.results.toList = [.tmp t])
  {h0 : Hp} {F : Fr} {args : List SV} {s : SV} {Q : Hp -> Prop} (hs : ∀ (w : World) (E : Nat -> Prop) (σ : Sg) (vs : List Value), RepL w E σ args vs -> FRep w E σ F (vs.toArray ++ Array.replicate (fn.ntmps - vs.toArray.size) Go.undef))
  (hc : BOK P h0 c F h0 fun x F' h' => (x = .ret ∨ x = .normal) /\ F'[t]? = some s /\ Q h') {w : World} {X : Nat -> Prop} {σ : Sg} {vs : List Value} (hI : Inv w X σ h0) (hr : RepL w (Ex X σ) σ args vs) :
  DoneS P (callFunc f vs.toArray) w fun v w' => ∃ h' σ', Q h' /\ Rep w' (Ex X σ') σ' s v /\ Inv w' X σ' h' /\ Step h0.length w σ w' σ' := by
 have hcall : (callFunc f vs.toArray).run P w = .ok (.enter f vs.toArray) w := by
  have h1 : fn.name ≠ "runtime.NumGoroutine" := by simpa using hn
  simp [callFunc, hf, h1, hb]
 unfold DoneS
 rw [hcall]
 refine calls_of_wp hf hb (wp_mono (hc w X σ w σ _ hI (.refl _ _ _) hI (hs w _ σ vs hr)) fun e a w' hq => ?_)
 obtain ⟨hd, x1, F1, h1, σ', hx1, ⟨hx, ht, hQ⟩, hI', hF', hS⟩ := hq
 have fin : a.defers = [] /\ ∃ v, (results fn a.tmps).run P w' = .ok v w' /\ ∃ v', Ending.returned v = .returned v' /\ ∃ h' σ', Q h' /\ Rep w' (Ex X σ') σ' s v' /\ Inv w' X σ' h' /\ Step h0.length w σ w' σ' := by
  have hlt : t < a.tmps.size := by rw [<- hF'.1]; exact (List.getElem?_eq_some_iff.1 ht).1
  have hv : a.tmps[t]? = some (a.tmps[t]'hlt) := Array.getElem?_eq_getElem hlt
  have hrep := hF'.2 t s _ ht hv
  have hg : a.tmps.getD t Go.undef = a.tmps[t]'hlt := by simp [Array.getD, hlt]
  have hrun : (fn.results.toList.mapM fun | .tmp t => pure (a.tmps.getD t Go.undef) | .cell b t => do loadVar t (<- asAddr (a.tmps.getD b Go.undef)) : Sem (List Value)).run P w' = .ok [a.tmps[t]'hlt] w' := by
   rw [hres]
   simp only [List.mapM_cons, List.mapM_nil, Sem.run_bind, Sem.run_pure, hg]
   rfl
  have hres' : (results fn a.tmps).run P w' = .ok (a.tmps[t]'hlt) w' := by
   unfold results
   rw [Array.mapM_eq_mapM_toList]
   simp only [Sem.run_bind, Sem.run_map, Sem.run_pure]
   erw [hrun]
   rfl
  exact ⟨hd, a.tmps[t]'hlt, hres', _, rfl, h1, σ', hQ, hrep, hI', hS⟩
 cases e <;> cases hx1
 case normal => exact fin
 case ret => exact fin
 case exit id => rcases hx with hx | hx <;> cases hx
end
end Go.Sx

namespace Go.Sx
section
variable {P : Program} {V : Env}
theorem SWs.set {l l' : List SV} {s s' : SV} (h : SWs l l') (hs : SW s s') : ∀ (i : Nat), SWs (l.set i s) (l'.set i s') := by
 induction h with
 | nil => intro i; exact .nil
 | cons h t ih =>
  intro i
  cases i with
  | zero => exact .cons hs t
  | succ i => exact .cons h (ih i)
theorem SWs.sets (sp : List Nat) : ∀ {ss ss' : List SV}, SWs ss ss' -> ∀ {F F' : Fr}, SWs F F' -> SWs ((sp.zip ss).foldl (fun F p => F.set p.1 p.2) F) ((sp.zip ss').foldl (fun F p => F.set p.1 p.2) F') := by
 induction sp with
 | nil => intro ss ss' _ F F' h; exact h
 | cons t sp ih =>
  intro ss ss' hs F F' h
  cases hs with
  | nil => exact h
  | cons a b => exact ih b (h.set a t)
theorem SWs.mkFr (n : Nat) (sp : List Nat) {ss ss' : List SV} (h : SWs ss ss') : SWs (mkFr n (sp.zip ss)) (mkFr n (sp.zip ss')) := SWs.sets sp h .refl
theorem code_run (hV : EnvOK P V) {fuel m n : Nat} {c : Code} {F : FW} {H : HW} {wr : List Nat} {K : PostV} {Q : Prop} (hq : codeV P V (runV P V fuel) m n c F H wr K = Q) (h : Q) (hle : m <= H.view.length) :
  ∃ x F' H' wr', K x F' H' wr' /\ SOK P m c (viewF n F) H.view (Just x (viewF n F') H'.view) /\ Moved m H.view wr H'.view wr' := by
 rw [<- hq] at h
 exact codeV_sound hV (runV_sound hV fuel) c hle h
theorem BRounds.run (hV : EnvOK P V) {fuel m n : Nat} {c : Code} {F : FW} {H H0 H2 : HW} {live : List Nat} {ss : List SV} {Q : Prop}
  (hq : codeV P V (runV P V fuel) m n c F H [] (fun x F' H' wr => x = .normal /\ tidyV n m H0 live F' H' wr fun s' H'' => s' = ss /\ H'' = H2) = Q) (h : Q) (hn : n <= 256) (hm : m = H0.view.length) (hle : m <= H.view.length) (h0 : ∀ i, i < m -> H.view[i]? = H0.view[i]?)
  {K : Post} {k : Nat} (hk : BRounds P H0.view c k (Go.Sx.mkFr n (live.zip ss)) H2.view K) : BRounds P H0.view c (k + 1) (viewF n F) H.view K := by
 rw [<- hq] at h
 obtain ⟨x, F', H', wr, ⟨hx, ht⟩, hc, hM⟩ := codeV_sound hV (runV_sound hV fuel) c hle h
 subst hx
 obtain ⟨s', H'', ⟨e1, e2⟩, _, hg⟩ := tidy_sound hn hm ht hM h0
 subst e1; subst e2
 refine BRounds.step ((BOK.of (by omega) hc).mono fun y F1 h1 e => ?_)
 obtain ⟨e1, e2, e3⟩ := e
 subst e1; subst e2; subst e3
 exact BRounds.goes hg hk
theorem BRounds.mono {h0 : Hp} {c : Code} {n : Nat} {F : Fr} {h : Hp} {K K' : Post} (hs : BRounds P h0 c n F h K) (hk : ∀ x F h, K x F h -> K' x F h) : BRounds P h0 c n F h K' :=
 fun w0 X σ0 w σ tmps h1 h2 h3 h4 => rounds_mono (fun _ _ _ => SPost.mono hk) (hs w0 X σ0 w σ tmps h1 h2 h3 h4)
theorem begin_sound (hV : EnvOK P V) {fuel m n id k : Nat} {l : List Code} {r loopc endc : Code} {F : FW} {H0 H1 : HW} {live : List Nat} {ss : List SV} {Q : Prop}
  (hq : piecesV P V (runV P V fuel) m n l F H0 [] (fun x F H wr => x = .normal /\ codeV P V (runV P V fuel) m n r F H wr fun x F H wr => x = .normal /\ tidyV n m H0 live F H wr fun s' H' => s' = ss /\ H' = H1) = Q) (h : Q) (hn : n <= 256) (hm : m = H0.view.length)
  {K : Fr -> Hp -> Prop} (hk : BRounds P H0.view loopc k (Go.Sx.mkFr n (live.zip ss)) H1.view fun x F h => x = .ret /\ K F h) :
  BOK P H0.view (l.foldr Code.seq (.seq (.seq r (.block id (.loop loopc))) endc)) (viewF n F) H0.view fun x F h => x = .ret /\ K F h := by
 rw [<- hq] at h
 obtain ⟨x, F1, H2, wr1, ⟨hx, h⟩, hM1, hX⟩ := pieces_sound hV (Nat.le_of_eq hm.symm) l (by omega) h
 subst hx
 obtain ⟨x2, F2, H3, wr2, ⟨hx2, ht⟩, hc, hM2⟩ := codeV_sound hV (runV_sound hV fuel) r (by have := hM1.le; omega) h
 subst hx2
 have hM : Moved m H0.view [] H3.view wr2 := hM1.trans hM2
 obtain ⟨s', H4, ⟨e1, e2⟩, _, hg⟩ := tidy_sound hn hm ht hM (fun i hi => rfl)
 subst e1; subst e2
 refine hX _ _ (fun _ => BOK.seq (BOK.seq ((BOK.of (by omega) hc).mono fun y F' h' e => ?_))) (fun h => absurd rfl h)
 obtain ⟨e1, e2, e3⟩ := e
 subst e1; subst e2; subst e3
 refine BOK.block (BOK.loop (BRounds.goes hg (hk.mono fun x F h hx => ?_)))
 obtain ⟨e, hK⟩ := hx
 subst e
 exact ⟨rfl, hK⟩
end
end Go.Sx

namespace Go.Sx
section
variable {P : Program} {V : Env}
noncomputable def timesV (P : Program) (V : Env) (rec : RecV) (m n : Nat) (c : Code) (j : Nat) : FW -> HW -> List Nat -> PostV -> Prop :=
 Nat.rec (motive := fun _ => FW -> HW -> List Nat -> PostV -> Prop) (fun F H wr K => K .normal F H wr)
  (fun _ ih F H wr K => codeV P V rec m n c F H wr fun x F H wr => match x with
   | .normal => ih F H wr K
   | .exit _ => False
   | .ret => False) j
theorem times_sound (hV : EnvOK P V) {fuel n : Nat} {h0 : Hp} {m : Nat} (hm : h0.length <= m) {c : Code} (j : Nat) : ∀ {F : FW} {H : HW} {wr : List Nat} {K : PostV}, m <= H.view.length -> timesV P V (runV P V fuel) m n c j F H wr K ->
  ∃ F' H' wr', K .normal F' H' wr' /\ Moved m H.view wr H'.view wr' /\ ∀ (k : Nat) (K2 : Post), BRounds P h0 c k (viewF n F') H'.view K2 -> BRounds P h0 c (k + j) (viewF n F) H.view K2 := by
 induction j with
 | zero =>
  intro F H wr K _ hk
  exact ⟨F, H, wr, hk, .refl, fun k K2 h => h⟩
 | succ j ih =>
  intro F H wr K hle hk
  obtain ⟨x, F1, H1, wr1, hk, hc, hM⟩ := codeV_sound hV (runV_sound hV fuel) c hle (show codeV P V (runV P V fuel) m n c F H wr _ from hk)
  cases x with
  | normal =>
   obtain ⟨F2, H2, wr2, hk, hM2, h2⟩ := ih (Nat.le_trans hle hM.le) (show timesV P V (runV P V fuel) m n c j F1 H1 wr1 K from hk)
   refine ⟨F2, H2, wr2, hk, hM.trans hM2, fun k K2 h => BRounds.step ((BOK.of hm hc).mono fun y F' h' e => ?_)⟩
   obtain ⟨e1, e2, e3⟩ := e
   subst e1; subst e2; subst e3
   exact h2 k K2 h
  | exit i => exact hk.elim
  | ret => exact hk.elim
theorem Inv.weak {w : World} {X : Nat -> Prop} {σ : Sg} {h h' : Hp} (h3 : Inv w X σ h) (hh : HWk h h') : Inv w X σ h' :=
 ⟨h3.len.trans hh.len, fun i b e hb he => by obtain ⟨b0, hb0, hw⟩ := hh.get i b hb; exact hw _ _ _ _ (h3.ok i b0 e hb0 he), h3.lt, h3.inj, h3.dis, h3.xlt⟩
theorem BRounds.base {h0 h0' : Hp} {c : Code} {n : Nat} {F : Fr} {h : Hp} {K : Post} (hw : HWk h0 h0') (hs : BRounds P h0' c n F h K) : BRounds P h0 c n F h K := fun w0 X σ0 w σ tmps h1 h2 h3 h4 => by
 have := hs w0 X σ0 w σ tmps (h1.weak hw) (by rw [<- hw.len]; exact h2) h3 h4
 rw [<- hw.len] at this
 exact this
theorem BOK.base {h0 h0' : Hp} {c : Code} {F : Fr} {h : Hp} {K : Post} (hw : HWk h0 h0') (hs : BOK P h0' c F h K) : BOK P h0 c F h K := fun w0 X σ0 w σ tmps h1 h2 h3 h4 => by
 have := hs w0 X σ0 w σ tmps (h1.weak hw) (by rw [<- hw.len]; exact h2) h3 h4
 rw [<- hw.len] at this
 exact this
theorem BRounds.runs (hV : EnvOK P V) {fuel m n j : Nat} {c : Code} {F : FW} {H H0 H2 : HW} {live : List Nat} {ss : List SV} {Q : Prop}
  (hq : timesV P V (runV P V fuel) m n c j F H [] (fun _ F' H' wr => tidyV n m H0 live F' H' wr fun s' H'' => s' = ss /\ H'' = H2) = Q) (h : Q) (hn : n <= 256) (hm : m = H0.view.length) (hle : m <= H.view.length) (h0 : ∀ i, i < m -> H.view[i]? = H0.view[i]?)
  {K : Post} {k : Nat} (hk : BRounds P H0.view c k (Go.Sx.mkFr n (live.zip ss)) H2.view K) : BRounds P H0.view c (k + j) (viewF n F) H.view K := by
 rw [<- hq] at h
 obtain ⟨F', H', wr, ht, hM, hX⟩ := times_sound hV (h0 := H0.view) (Nat.le_of_eq hm.symm) j hle h
 obtain ⟨s', H'', ⟨e1, e2⟩, _, hg⟩ := tidy_sound hn hm ht hM h0
 subst e1; subst e2
 exact hX k K (BRounds.goes hg hk)
theorem begin_sound2 (hV : EnvOK P V) {fuel m n id k j : Nat} {l : List Code} {r loopc endc : Code} {F : FW} {H0 H1 : HW} {live : List Nat} {ss : List SV} {Q : Prop}
  (hq : piecesV P V (runV P V fuel) m n l F H0 [] (fun x F H wr => x = .normal /\ codeV P V (runV P V fuel) m n r F H wr fun x F H wr => x = .normal /\ timesV P V (runV P V fuel) m n loopc j F H wr fun _ F H wr => tidyV n m H0 live F H wr fun s' H' => s' = ss /\ H' = H1) = Q) (h : Q) (hn : n <= 256) (hm : m = H0.view.length)
  {K : Post} (hk : BRounds P H0.view loopc k (Go.Sx.mkFr n (live.zip ss)) H1.view fun x F h => x = .exit id /\ BOK P H0.view endc F h K) :
  BOK P H0.view (l.foldr Code.seq (.seq (.seq r (.block id (.loop loopc))) endc)) (viewF n F) H0.view K := by
 rw [<- hq] at h
 obtain ⟨x, F1, H2, wr1, ⟨hx, h⟩, hM1, hX⟩ := pieces_sound hV (Nat.le_of_eq hm.symm) l (by omega) h
 subst hx
 obtain ⟨x2, F2, H3, wr2, ⟨hx2, ht⟩, hc, hM2⟩ := codeV_sound hV (runV_sound hV fuel) r (by have := hM1.le; omega) h
 subst hx2
 obtain ⟨F3, H4, wr3, ht, hM3, hX3⟩ := times_sound hV (h0 := H0.view) (Nat.le_of_eq hm.symm) j (by have := hM1.le; have := hM2.le; omega) ht
 have hM : Moved m H0.view [] H4.view wr3 := (hM1.trans hM2).trans hM3
 obtain ⟨s', H5, ⟨e1, e2⟩, _, hg⟩ := tidy_sound hn hm ht hM (fun i hi => rfl)
 subst e1; subst e2
 refine hX _ _ (fun _ => BOK.seq (BOK.seq ((BOK.of (by omega) hc).mono fun y F' h' e => ?_))) (fun h => absurd rfl h)
 obtain ⟨e1, e2, e3⟩ := e
 subst e1; subst e2; subst e3
 refine BOK.block (BOK.loop ((hX3 k _ (BRounds.goes hg hk)).mono fun x F h hx => ?_))
 obtain ⟨e, hK⟩ := hx
 subst e
 show (match Nat.beq id id with | true => _ | false => _)
 rw [Nat.beq_refl]
 exact hK
theorem done_of_bok2 {f : FuncId} {fn : Func} {c : Code} (hf : P.funcs[f]? = some fn) (hn : (fn.name == "runtime.NumGoroutine") = false) (hb : fn.body = some c) {t t' : Nat} (hres : fn.results.toList = [.tmp t, .tmp t'])
  {h0 : Hp} {F : Fr} {args : List SV} {s s' : SV} {Q : Hp -> Prop} (hs : ∀ (w : World) (E : Nat -> Prop) (σ : Sg) (vs : List Value), RepL w E σ args vs -> FRep w E σ F (vs.toArray ++ Array.replicate (fn.ntmps - vs.toArray.size) Go.undef))
  (hc : BOK P h0 c F h0 fun x F' h' => (x = .ret ∨ x = .normal) /\ F'[t]? = some s /\ F'[t']? = some s' /\ Q h') {w : World} {X : Nat -> Prop} {σ : Sg} {vs : List Value} (hI : Inv w X σ h0) (hr : RepL w (Ex X σ) σ args vs) :
  DoneS P (callFunc f vs.toArray) w fun v w' => ∃ h' σ', Q h' /\ Rep w' (Ex X σ') σ' (.tup [s, s']) v /\ Inv w' X σ' h' /\ Step h0.length w σ w' σ' := by
 have hcall : (callFunc f vs.toArray).run P w = .ok (.enter f vs.toArray) w := by
  have h1 : fn.name ≠ "runtime.NumGoroutine" := by simpa using hn
  simp [callFunc, hf, h1, hb]
 unfold DoneS
 rw [hcall]
 refine calls_of_wp hf hb (wp_mono (hc w X σ w σ _ hI (.refl _ _ _) hI (hs w _ σ vs hr)) fun e a w' hq => ?_)
 obtain ⟨hd, x1, F1, h1, σ', hx1, ⟨hx, ht, ht', hQ⟩, hI', hF', hS⟩ := hq
 have fin : a.defers = [] /\ ∃ v, (results fn a.tmps).run P w' = .ok v w' /\ ∃ v', Ending.returned v = .returned v' /\ ∃ h' σ', Q h' /\ Rep w' (Ex X σ') σ' (.tup [s, s']) v' /\ Inv w' X σ' h' /\ Step h0.length w σ w' σ' := by
  have hlt : t < a.tmps.size := by rw [<- hF'.1]; exact (List.getElem?_eq_some_iff.1 ht).1
  have hlt' : t' < a.tmps.size := by rw [<- hF'.1]; exact (List.getElem?_eq_some_iff.1 ht').1
  have hrep := hF'.2 t s _ ht (Array.getElem?_eq_getElem hlt)
  have hrep' := hF'.2 t' s' _ ht' (Array.getElem?_eq_getElem hlt')
  have hg : a.tmps.getD t Go.undef = a.tmps[t]'hlt := by simp [Array.getD, hlt]
  have hg' : a.tmps.getD t' Go.undef = a.tmps[t']'hlt' := by simp [Array.getD, hlt']
  have hrun : (fn.results.toList.mapM fun | .tmp t => pure (a.tmps.getD t Go.undef) | .cell b t => do loadVar t (<- asAddr (a.tmps.getD b Go.undef)) : Sem (List Value)).run P w' = .ok [a.tmps[t]'hlt, a.tmps[t']'hlt'] w' := by
   rw [hres]
   simp only [List.mapM_cons, List.mapM_nil, Sem.run_bind, Sem.run_pure, hg, hg']
   rfl
  have hres' : (results fn a.tmps).run P w' = .ok (.tuple #[a.tmps[t]'hlt, a.tmps[t']'hlt']) w' := by
   unfold results
   rw [Array.mapM_eq_mapM_toList]
   simp only [Sem.run_bind, Sem.run_map, Sem.run_pure]
   erw [hrun]
   rfl
  refine ⟨hd, _, hres', _, rfl, h1, σ', hQ, .tup rfl fun i s1 v1 hs1 hv1 => ?_, hI', hS⟩
  match i with
  | 0 => simp at hs1 hv1; subst hs1; subst hv1; exact hrep
  | 1 => simp at hs1 hv1; subst hs1; subst hv1; exact hrep'
  | i + 2 => simp at hs1
 cases e <;> cases hx1
 case normal => exact fin
 case ret => exact fin
 case exit id => rcases hx with hx | hx <;> cases hx
inductive EWs : List (SV × SV) -> List (SV × SV) -> Prop where
 | nil : EWs [] []
 | cons {a b : SV × SV} {l l' : List (SV × SV)} (h : SW a.1 b.1) (h' : SW a.2 b.2) (t : EWs l l') : EWs (a :: l) (b :: l')
theorem EWs.len {l l' : List (SV × SV)} (h : EWs l l') : l.length = l'.length := by induction h <;> simp [*]
theorem EWs.get {l l' : List (SV × SV)} (h : EWs l l') : ∀ (i : Nat) (e' : SV × SV), l'[i]? = some e' -> ∃ e, l[i]? = some e /\ SW e.1 e'.1 /\ SW e.2 e'.2 := by
 induction h with
 | nil => intro i s' h; simp at h
 | cons h h' t ih =>
  intro i s' hi
  cases i with
  | zero => simp at hi; subst hi; exact ⟨_, rfl, h, h'⟩
  | succ i => exact ih i s' (by simpa using hi)
theorem EWs.append {a a' b b' : List (SV × SV)} (h : EWs a a') (k : EWs b b') : EWs (a ++ b) (a' ++ b') := by
 induction h with
 | nil => exact k
 | cons h h' _ ih => exact .cons h h' ih
theorem BW.gmap {pre es pre' es' : List (SV × SV)} (h : EWs (pre ++ es) (pre' ++ es')) : BW (.gmap pre es) (.gmap pre' es') := fun w E σ e hb => by
 cases e <;> simp only [BlkOK] at hb ⊢
 obtain ⟨ms, ck, h1, h2, h3⟩ := hb
 refine ⟨ms, ck, h1, by rw [<- h.len]; exact h2, fun i e' m he' hm => ?_⟩
 obtain ⟨e, he, w1, w2⟩ := h.get i e' he'
 obtain ⟨a, b⟩ := h3 i e m he hm
 exact ⟨w1 _ _ _ _ a, w2 _ _ _ _ b⟩
theorem BW.mapG {l : List ME} {ck : Nat} {pre es : List (SV × SV)} (h : EWs (l.map fun e => (e.1, e.2.1)) (pre ++ es)) : BW (.mapB l ck) (.gmap pre es) := fun w E σ e hb =>
 by
 have h' : EWs (([] : List (SV × SV)) ++ l.map fun e => (e.1, e.2.1)) (pre ++ es) := h
 exact BW.gmap h' w E σ e (map_gmap (pre := []) rfl hb)
end
end Go.Sx

namespace Go.Sx
open Go.ChangeShapes Go.WideShapes Go.ChangeAt
section
variable {H : Type} {enc : TypeId × Value -> H} {P : Program} {W : World} {base : Nat} {spare : Nat -> Bool} {held : Bool}
theorem block_lt' {w : World} {a : Addr} {v : Value} (h : w.cell? a = some v) : a.block < w.heap.size := by
 unfold World.cell? at h
 cases hb : w.heap[a.block]? with
 | none => rw [hb] at h; simp at h
 | some o => exact (Array.getElem?_eq_some_iff.1 hb).1
def rowOf (k : IntKind) (ls : List Int) : List (List SV) := ls.map fun z => [.int k z]
theorem rep_ints {w : World} {k : IntKind} {x : Addr} {len cap : Nat} {zs : List Int} (hl : len <= cap) (hm : cap <= maxLen) (hz : len <= zs.length) (hcell : ∀ i, i < zs.length -> w.cell? (x.add i) = some (.int k (zs.getD i 0))) :
  Rep w (fun _ => False) [] (.rs 1 (rowOf k (zs.take len))) (.slice (some x) len cap) := by
 have hrl : (rowOf k (zs.take len)).length = len := by simp [rowOf, Nat.min_eq_left hz]
 cases hlen : len with
 | zero =>
  have : rowOf k (zs.take 0) = [] := by simp [rowOf]
  rw [this]
  exact .rs0 hm
 | succ n =>
  have h0 := hcell 0 (by omega)
  have hlt := block_lt' h0
  rw [add_block] at hlt
  have hget : ∀ (i : Nat) (e : List SV), (rowOf k (zs.take len))[i]? = some e -> i < zs.length /\ e = [.int k (zs.getD i 0)] := by
   intro i e he
   have hi : i < len := by rw [<- hrl]; exact (List.getElem?_eq_some_iff.1 he).1
   have hiz : i < zs.length := by omega
   simp only [rowOf, List.getElem?_map, List.getElem?_take, if_pos hi, List.getElem?_eq_getElem hiz, Option.map_some, Option.some.injEq] at he
   exact ⟨hiz, by rw [<- he]; simp [List.getD, List.getElem?_eq_getElem hiz]⟩
  have key : Rep w (fun _ => False) [] (.rs 1 (rowOf k (zs.take len))) (.slice (some x) (rowOf k (zs.take len)).length cap) := by
   refine .rs (val := fun i _ => .int k (zs.getD i 0)) (by rw [hrl]; exact hl) hm (fun h => h) hlt (fun i e he => by rw [(hget i e he).2]; rfl) (fun i e j s he hs => ?_) (fun i e j s he hs => rfl) (fun i e j s he hs => ?_)
   all_goals obtain ⟨hi, rfl⟩ := hget i e he
   all_goals
    have hj : j = 0 := by
     have := (List.getElem?_eq_some_iff.1 hs).1
     simpa using this
    subst hj
   ·simpa using hcell i hi
   ·simp at hs; subst hs; exact .int
  rw [hrl] at key
  rw [<- hlen]
  exact key
theorem arg_ints {t e : TypeId} {k : IntKind} {b : Nat} {v : Value} {d : DataW H} {p : List MemPlace} (ht : P.underlying t = some (.slice e)) (he : P.underlying e = some (.int k)) (hc : P.cellsOf e = 1)
  (hv : Value.okWide P W .any b t v) (h : DataW.Trod enc P W base spare held t v d p) : ∃ ls : List Int, (∀ z ∈ ls, (Lit.int k z).wf = true) /\ Rep W (fun _ => False) [] (.rs 1 (rowOf k ls)) v := by
 obtain ⟨a0, len0, cap0, rfl⟩ := okWide_slice ht hv
 obtain ⟨fuel, hf⟩ := h
 rcases open_ints ht he hc hf with ⟨hcs, _⟩ | ⟨x, l, c, zs, hcs, _, hl, hm, hz, _, hcell, hwz⟩
 ·simp [Value.cells] at hcs
  obtain ⟨rfl, rfl, rfl⟩ := hcs
  exact ⟨[], by simp, .rs0 (Nat.zero_le _)⟩
 ·simp [Value.cells] at hcs
  obtain ⟨rfl, rfl, rfl⟩ := hcs
  exact ⟨zs.take len0, fun z hz => hwz z (List.mem_of_mem_take hz), rep_ints hl hm (by rw [hz]; split <;> omega) hcell⟩
end
end Go.Sx

/- Regions whose order is drawn: the executor, and what a call in them comes to. No statement of the seat is proved here. -/
import Derived.Test.YthlomoacacebeacSxO
namespace Go.Sx
section
variable {P : Program} {T : Tab}

/-- A call whose order among others is open: what it hands back, writes and looks at is fixed ahead. -/
structure CallOK (P : Program) (f : FuncId) (args : List SV) (h : Hp) (s : SV) (ws : Ws) (rds : List Nat) : Prop where
  ok : ∀ (w : World) (X : Nat → Prop) (σ : Sg) (h2 : Hp) (vs : List Value), Inv w X σ h2 → RepL w (Ex X σ) σ args vs → (∀ i ∈ rds, h2[i]? = h[i]?) →
    OpRes P (callFunc f vs.toArray) w X σ h2 s ws
  sub : ∀ p ∈ ws, p.1 ∈ rds
structure CallD (P : Program) (f : FuncId) (args : List SV) (h : Hp) (nid : Nat) (K : Kop) : Prop where
  ok : ∃ s ws rds, K s ws rds ∧ CallOK P f args h s ws rds

theorem PSpec.calld {f : FuncId} {args : List SV} {s : SV} (hs : PSpec P f args (· = s)) {h : Hp} {nid : Nat} {K : Kop} (hk : K s [] []) : CallD P f args h nid K :=
  ⟨s, [], [], hk, ⟨fun w X σ h2 vs hI hr _ => by
    refine ((hs.ok h2 (fun s' h' => s' = s ∧ h' = h2) fun s' hs' => ⟨hs', rfl⟩).ok w X σ vs hI hr).mono fun v w' ⟨s', h', σ', ⟨e1, e2⟩, hrep, hI', hS⟩ => ?_
    subst e1; subst e2
    exact ⟨σ', hrep, hI', hS, by rw [hI'.len, hI.len]⟩, by simp⟩⟩

noncomputable def fireK (P : Program) (T : Tab) (F : Fr) (h : Hp) (nid : Nat) (op : Op) (K : Kop) : Prop :=
  match op with
  | .call { callee := .value x, args := xs, .. } => evK F x fun x => match x with
    | .fn f cs => evsK F xs.toList fun l => appK l cs fun l => CallD P f l h nid K
    | _ => False
  | op => match allocs T op with
    | true => nthK h nid fun b => match b with | .fresh => opK T F h nid op K | _ => False
    | false => opK T F h 0 op K

noncomputable def guardsB (l : List Oper) (j : Nat) : Bool :=
  List.rec (motive := fun _ => Bool) false (fun o _ ih => match o.guard with | none => ih | some (i, _) => match Nat.beq i j with | true => true | false => ih) l
def splitK (g : Bool) (s : SV) (k : SV → Prop) : Prop :=
  match g with
  | false => k s
  | true => match s with
    | .bool b => (b = true → k .tt) ∧ (b = false → k .ff)
    | .tt => k .tt | .ff => k .ff | .undef => k .undef
    | _ => False
noncomputable def wantK (ops : List Oper) (F : Fr) (g : Option (Nat × Bool)) (yes no : Prop) : Prop :=
  match g with
  | none => yes
  | some (j, want) => match dstOf ops j with
    | none => False
    | some d => nthK F d fun s => match s, want with
      | .tt, true => yes
      | .tt, false => no
      | .ff, true => no
      | .ff, false => yes
      | .undef, _ => no
      | _, _ => False
noncomputable def dopsK (P : Program) (T : Tab) (all l : List Oper) : Nat → List Nat → Fr → Hp → (List Rec → Fr → Hp → Prop) → Prop :=
  List.rec (motive := fun _ => Nat → List Nat → Fr → Hp → (List Rec → Fr → Hp → Prop) → Prop) (fun _ _ F h K => K [] F h)
    (fun o _ ih i ids F h K => List.rec (motive := fun _ => Prop) False (fun nid ids' _ =>
      wantK all F o.guard
        (fireK P T F h nid o.op fun s ws rds => splitK (guardsB all i) s fun s => putD F o.dst s fun F' => updK ws h fun h' => ih (Nat.succ i) ids' F' h' fun rs => K (⟨s, ws, rds⟩ :: rs))
        (putD F o.dst .undef fun F' => ih (Nat.succ i) ids' F' h fun rs => K (⟨.undef, [], []⟩ :: rs))) ids) l

noncomputable def needs (T : Tab) (op : Op) : Bool :=
  match op with
  | .call { callee := .value _, .. } => true
  | op => allocs T op
/-- Places for what the region makes. -/
noncomputable def resvK (T : Tab) (l : List Oper) : Hp → (List Nat → Hp → Prop) → Prop :=
  List.rec (motive := fun _ => Hp → (List Nat → Hp → Prop) → Prop) (fun h k => k [] h)
    (fun o _ ih h k => match needs T o.op with
      | true => idK h supply fun n => appK h [.fresh] fun h' => ih h' fun ns h'' => k (n :: ns) h''
      | false => ih h fun ns h'' => k (0 :: ns) h'') l

/-! ### what may stand in either order -/
def predsOf (o : Oper) : List Nat := o.after.toList.filterMap fun e => if Region.binds .any e then some e.on else none
def closAt (cl : List Nat) (ps : List Nat) : Nat := ps.foldl (fun m j => m ||| 2 ^ j ||| cl.getD j 0) 0
abbrev Mk := List Nat × List Nat
def meetB (a b : List Nat) : Bool := a.any fun x => b.contains x
def apartB (ops : Array Oper) (oj oi : Oper) (mj mi : Mk) : Bool := oj.apart ops oi && !meetB mj.1 mi.2 && !meetB mi.1 mj.2
def pairsB (ops : Array Oper) (c : Nat) (oi : Oper) (mi : Mk) : Nat → List (Oper × Mk) → Bool
  | _, [] => true
  | j, x :: r => (c.testBit j || apartB ops x.1 oi x.2 mi) && pairsB ops c oi mi (j + 1) r
def indepGo (ops : Array Oper) : List (Oper × Mk) → List Nat → List (Oper × Mk) → Bool
  | _, _, [] => true
  | done, cl, x :: r => (predsOf x.1).all (fun j => decide (j < cl.length)) && pairsB ops (closAt cl (predsOf x.1)) x.1 x.2 0 done && indepGo ops (done ++ [x]) (cl ++ [closAt cl (predsOf x.1)]) r
def indepB (ops : Array Oper) (ms : List Mk) : Bool := Region.noSelect ops && indepGo ops [] [] (ops.toList.zip ms)

noncomputable def fstsK (ws : Ws) : (List Nat → Prop) → Prop :=
  List.rec (motive := fun _ => (List Nat → Prop) → Prop) (fun k => k []) (fun p _ ih k => ih fun l => k (p.1 :: l)) ws
noncomputable def marksK (rs : List Rec) : (List Mk → Prop) → Prop :=
  List.rec (motive := fun _ => (List Mk → Prop) → Prop) (fun k => k []) (fun r _ ih k => fstsK r.ws fun a => ih fun l => k ((a, r.rds) :: l)) rs

noncomputable def drawK (P : Program) (T : Tab) (ops : Array Oper) (F : Fr) (h : Hp) (K : Fr → Hp → Prop) : Prop :=
  resvK T ops.toList h fun ids h' => dopsK P T ops.toList ops.toList 0 ids F h' fun rs F' h'' => marksK rs fun ms => indepB ops ms = true ∧ K F' h''

/-! ### soundness: one operation -/
/-- What one operation does, wherever it stands. -/
structure Good (P : Program) (ops : Array Oper) (F : Fr) (h : Hp) (o : Oper) (r : Rec) : Prop where
  go : ∀ (w : World) (X : Nat → Prop) (σ : Sg) (h2 : Hp) (a : Act), Inv w X σ h2 → (∀ t ∈ o.looksAt ops, ∀ s, F[t]? = some s → ∃ v, a.tmps[t]? = some v ∧ Rep w (Ex X σ) σ s v) →
    (∀ i ∈ r.rds, h2[i]? = h[i]?) →
    (Region.wanted o (yielded ops a.tmps) = true ∧ OpRes P (execOp a.eval o) w X σ h2 r.s r.ws) ∨ (Region.wanted o (yielded ops a.tmps) = false ∧ r.s = .undef ∧ r.ws = [])
  sub : ∀ p ∈ r.ws, p.1 ∈ r.rds

theorem opn_of_looks {ops : Array Oper} {F : Fr} {o : Oper} {w : World} {E : Nat → Prop} {σ : Sg} {a : Act}
    (hl : ∀ t ∈ o.looksAt ops, ∀ s, F[t]? = some s → ∃ v, a.tmps[t]? = some v ∧ Rep w E σ s v) (x : Operand) (hx : x ∈ o.op.operands.toList) : OpnRep w E σ F a.eval x := by
  cases x with
  | tmp t =>
    intro s hs
    have ht : t ∈ o.looksAt ops := by
      unfold Oper.looksAt
      rw [List.mem_append]
      exact .inl (List.mem_filterMap.2 ⟨.tmp t, hx, rfl⟩)
    obtain ⟨v, hv, hr⟩ := hl t ht s hs
    have : a.eval (.tmp t) = v := by simp [Act.eval, Array.getD_eq_getD_getElem?, hv]
    rw [this]; exact hr
  | const v => rfl
  | global g => trivial
  | func f => rfl

theorem fireK_sound (hT : TabOK P T) {ops : Array Oper} {F : Fr} {h : Hp} {nid : Nat} {o : Oper} {K : Kop} (hk : fireK P T F h nid o.op K) : ∃ s ws rds, K s ws rds ∧ (∀ p ∈ ws, p.1 ∈ rds) ∧
    ∀ (w : World) (X : Nat → Prop) (σ : Sg) (h2 : Hp) (a : Act), Inv w X σ h2 → (∀ t ∈ o.looksAt ops, ∀ s, F[t]? = some s → ∃ v, a.tmps[t]? = some v ∧ Rep w (Ex X σ) σ s v) →
    (∀ i ∈ rds, h2[i]? = h[i]?) → OpRes P (execOp a.eval o) w X σ h2 s ws := by
  obtain ⟨d, op, ty, pos, after, guard⟩ := o
  have plain : (match allocs T op with
    | true => nthK h nid fun b => match b with | .fresh => opK T F h nid op K | _ => False
    | false => opK T F h 0 op K) → ∃ s ws rds, K s ws rds ∧ (∀ p ∈ ws, p.1 ∈ rds) ∧
      ∀ (w : World) (X : Nat → Prop) (σ : Sg) (h2 : Hp) (a : Act), Inv w X σ h2 → (∀ t ∈ (Oper.mk d op ty pos after guard).looksAt ops, ∀ s, F[t]? = some s → ∃ v, a.tmps[t]? = some v ∧ Rep w (Ex X σ) σ s v) →
      (∀ i ∈ rds, h2[i]? = h[i]?) → OpRes P (execOp a.eval ⟨d, op, ty, pos, after, guard⟩) w X σ h2 s ws := by
    intro hk
    have hg : OpGood P F h op K := by
      cases hal : allocs T op with
      | true =>
        rw [hal] at hk
        obtain ⟨b, hb, hk⟩ := nthK_sound (show nthK h nid _ from hk)
        cases b with
        | fresh => exact opK_sound hT (fun _ => hb) hk
        | _ => exact hk.elim
      | false =>
        rw [hal] at hk
        exact opK_sound hT (fun h => by simp [hal] at h) hk
    obtain ⟨s, ws, rds, hk, hok, hsub⟩ := hg
    exact ⟨s, ws, rds, hk, hsub, fun w X σ h2 a hI hl hr => hok w X σ h2 a.eval d ty pos after guard hI (fun x hx => opn_of_looks hl x hx) hr⟩
  cases op with
  | call c =>
    obtain ⟨callee, xs, ats⟩ := c
    cases callee with
    | value x =>
      obtain ⟨sx, hk, hx⟩ := evK_sound (show evK F x _ from hk)
      cases sx with
      | fn f cs =>
        obtain ⟨l, hk, hl⟩ := evsK_sound hk
        have hk := appK_sound hk
        obtain ⟨s, ws, rds, hk, hok, hsub⟩ := hk.ok
        refine ⟨s, ws, rds, hk, hsub, fun w X σ h2 a hI hlk hrd => ?_⟩
        have hopn := opn_of_looks hlk
        have hr := hx w _ σ a.eval (hopn x (by simp [Op.operands, Call.operands]))
        have hls := hl w _ σ a.eval fun y hy => hopn y (by simp [Op.operands, Call.operands]; right; simpa using hy)
        generalize hρ : a.eval x = vx at hr
        cases hr with
        | @fn _ _ _ vs hlen hcs =>
          have hrun : execOp a.eval ⟨d, .call ⟨.value x, xs, ats⟩, ty, pos, after, guard⟩ = callFunc f ((xs.toList.map a.eval ++ vs.toList).toArray) := by
            have e1 : (xs.toList.map a.eval ++ vs.toList).toArray = xs.map a.eval ++ vs := by
              apply Array.ext'; simp
            rw [e1]
            simp [execOp, resolve, hρ, Deferred.ofValue, invoke]
          rw [hrun]
          refine hok w X σ h2 _ hI ⟨by rw [List.length_append, List.length_append, hls.1, hlen]; simp, fun i s v hs hv => ?_⟩ hrd
          rw [List.getElem?_append] at hs hv
          rw [← hls.1] at hv
          split at hs
          · rename_i hlt
            rw [if_pos hlt] at hv
            exact hls.2 i s v hs hv
          · rename_i hlt
            rw [if_neg hlt] at hv
            exact hcs _ s v hs (by simpa using hv)
      | _ => exact hk.elim
    | invoke r m => exact plain hk
    | builtin b => exact plain hk
  | _ => exact plain hk

theorem OpRes.know {m : Sem Next} {w : World} {X : Nat → Prop} {σ : Sg} {h2 : Hp} {s s' : SV} {ws : Ws} (h : OpRes P m w X σ h2 s ws) (hs : ∀ w E σ v, Rep w E σ s v → Rep w E σ s' v) : OpRes P m w X σ h2 s' ws :=
  DoneS.mono h fun _ _ ⟨σ', h1, h2⟩ => ⟨σ', hs _ _ _ _ h1, h2⟩

theorem splitK_sound {g : Bool} {s : SV} {k : SV → Prop} (h : splitK g s k) : ∃ s', k s' ∧ ∀ w E σ v, Rep w E σ s v → Rep w E σ s' v := by
  cases g with
  | false => exact ⟨s, h, fun _ _ _ _ h => h⟩
  | true =>
    cases s with
    | bool b =>
      cases hb : b with
      | true => subst hb; exact ⟨.tt, h.1 rfl, fun _ _ _ _ h => by cases h; exact .tt⟩
      | false => subst hb; exact ⟨.ff, h.2 rfl, fun _ _ _ _ h => by cases h; exact .ff⟩
    | tt => exact ⟨_, h, fun _ _ _ _ h => h⟩
    | ff => exact ⟨_, h, fun _ _ _ _ h => h⟩
    | undef => exact ⟨_, h, fun _ _ _ _ h => h⟩
    | _ => exact h.elim

theorem wantK_sound {ops : Array Oper} {F : Fr} {o : Oper} {yes no : Prop} (h : wantK ops.toList F o.guard yes no) : ∃ b : Bool, (if b then yes else no) ∧
    ∀ (w : World) (E : Nat → Prop) (σ : Sg) (a : Act), (∀ t ∈ o.looksAt ops, ∀ s, F[t]? = some s → ∃ v, a.tmps[t]? = some v ∧ Rep w E σ s v) → Region.wanted o (yielded ops a.tmps) = b := by
  unfold wantK at h
  cases hg : o.guard with
  | none =>
    rw [hg] at h
    exact ⟨true, h, fun w E σ a _ => by simp [Region.wanted, hg]⟩
  | some p =>
    obtain ⟨j, want⟩ := p
    rw [hg] at h
    simp only [] at h
    cases hd : dstOf ops.toList j with
    | none => rw [hd] at h; exact h.elim
    | some d =>
      rw [hd] at h
      obtain ⟨s, hs, h⟩ := nthK_sound (show nthK F d _ from h)
      have hd' : (ops[j]?).bind (·.dst) = some d := by
        unfold dstOf at hd; rw [Array.getElem?_toList] at hd; exact hd
      have hmem : d ∈ o.looksAt ops := by
        unfold Oper.looksAt
        rw [List.mem_append]
        right
        rw [hg]
        simp only [hd', Option.toList, List.mem_singleton]
      have hy : ∀ (w : World) (E : Nat → Prop) (σ : Sg) (a : Act), (∀ t ∈ o.looksAt ops, ∀ s, F[t]? = some s → ∃ v, a.tmps[t]? = some v ∧ Rep w E σ s v) →
          ∃ v, Rep w E σ s v ∧ ∀ r : Option Bool, (match v with | .bool b => some b | _ => none) = r → Region.wanted o (yielded ops a.tmps) = (r == some want) := by
        intro w E σ a hl
        obtain ⟨v, hv, hr⟩ := hl d hmem s hs
        refine ⟨v, hr, fun r hr' => ?_⟩
        have : yielded ops a.tmps j = r := by
          unfold yielded; rw [hd']; simp only [Option.bind_some, hv, ← hr']
          cases v <;> rfl
        simp [Region.wanted, hg, this]
      cases s with
      | tt =>
        refine ⟨want, ?_, fun w E σ a hl => ?_⟩
        · cases want <;> exact h
        · obtain ⟨v, hr, hy⟩ := hy w E σ a hl
          cases hr
          rw [hy (some true) rfl]
          cases want <;> rfl
      | ff =>
        refine ⟨!want, ?_, fun w E σ a hl => ?_⟩
        · cases want <;> exact h
        · obtain ⟨v, hr, hy⟩ := hy w E σ a hl
          cases hr
          rw [hy (some false) rfl]
          cases want <;> rfl
      | undef =>
        refine ⟨false, ?_, fun w E σ a hl => ?_⟩
        · cases want <;> exact h
        · obtain ⟨v, hr, hy⟩ := hy w E σ a hl
          cases hr
          rw [hy none rfl]
          rfl
      | _ => cases want <;> exact h.elim

/-! ### soundness: the run in the text's order -/
inductive Run (P : Program) (ops : Array Oper) : Fr → Hp → List Oper → List Rec → Fr → Hp → Prop where
  | nil {F : Fr} {h : Hp} : Run P ops F h [] [] F h
  | cons {F F' : Fr} {h h' : Hp} {o : Oper} {l : List Oper} {r : Rec} {rs : List Rec} (hg : Good P ops F h o r) (hr : Run P ops (setD F o.dst r.s) (upd r.ws h) l rs F' h') : Run P ops F h (o :: l) (r :: rs) F' h'

theorem putD_set {F : Fr} {d : Option Tmp} {s : SV} {K : Fr → Prop} (h : putD F d s K) : K (setD F d s) := by
  cases d with
  | none => exact h
  | some d => exact (setK_sound (show setK F d s K from h)).2

theorem dopsK_sound (hT : TabOK P T) {ops : Array Oper} (l : List Oper) : ∀ {i : Nat} {ids : List Nat} {F : Fr} {h : Hp} {K : List Rec → Fr → Hp → Prop}, dopsK P T ops.toList l i ids F h K →
    ∃ rs F' h', K rs F' h' ∧ Run P ops F h l rs F' h' := by
  induction l with
  | nil => intro i ids F h K hk; exact ⟨[], F, h, hk, .nil⟩
  | cons o l ih =>
    intro i ids F h K hk
    cases ids with
    | nil => exact hk.elim
    | cons nid ids =>
      obtain ⟨b, hk, hw⟩ := wantK_sound (show wantK ops.toList F o.guard (fireK P T F h nid o.op fun s ws rds => splitK (guardsB ops.toList i) s fun s => putD F o.dst s fun F' => updK ws h fun h' =>
          dopsK P T ops.toList l (Nat.succ i) ids F' h' fun rs => K (⟨s, ws, rds⟩ :: rs))
        (putD F o.dst .undef fun F' => dopsK P T ops.toList l (Nat.succ i) ids F' h fun rs => K (⟨.undef, [], []⟩ :: rs)) from hk)
      cases b with
      | true =>
        simp only [if_true] at hk
        obtain ⟨s, ws, rds, hk, hsub, hok⟩ := fireK_sound hT (ops := ops) (o := o) hk
        obtain ⟨s', hk, hs'⟩ := splitK_sound hk
        have hk := updK_sound (putD_set hk)
        obtain ⟨rs, F', h', hk, hr⟩ := ih hk
        exact ⟨_, F', h', hk, .cons ⟨fun w X σ h2 a hI hl hrd => .inl ⟨hw w _ σ a hl, (hok w X σ h2 a hI hl hrd).know hs'⟩, hsub⟩ hr⟩
      | false =>
        simp only [Bool.false_eq_true, if_false] at hk
        have hk := putD_set hk
        obtain ⟨rs, F', h', hk, hr⟩ := ih hk
        exact ⟨_, F', h', hk, .cons ⟨fun w X σ h2 a hI hl hrd => .inr ⟨hw w _ σ a hl, rfl, rfl⟩, by simp⟩ hr⟩
end
end Go.Sx

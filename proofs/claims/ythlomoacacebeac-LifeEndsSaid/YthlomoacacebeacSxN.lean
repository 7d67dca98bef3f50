/- Contracts: functions that only reckon; the way from a contract to a law's call; externs. No statement of the seat is proved here. -/
import Derived.Test.YthlomoacacebeacSxM
import Derived.Below
namespace Go.Sx
section
variable {P : Program} {T : Tab}

/-! ### values that hang on no block of one's own -/
def free1K (s : SV) (k : Prop) : Prop :=
  match s with
  | .agg cs => puresK cs k
  | .int _ _ => k | .tt => k | .ff => k | .bool _ => k | .str _ => k | .nilp => k | .nils => k | .rs _ _ => k | .rp _ _ _ _ => k
  | _ => False
noncomputable def freesK (l : List SV) (k : Prop) : Prop := List.rec (motive := fun _ => Prop) k (fun x _ ih => free1K x ih) l
noncomputable def freeK (s : SV) (k : Prop) : Prop :=
  match s with
  | .tup vs => freesK vs k
  | .agg cs => puresK cs k
  | .int _ _ => k | .tt => k | .ff => k | .bool _ => k | .str _ => k | .nilp => k | .nils => k | .rs _ _ => k | .rp _ _ _ _ => k
  | _ => False

def FreeSV (s : SV) : Prop := ∀ (w : World) (E : Nat → Prop) (σ σ' : Sg) (v : Value), Rep w E σ s v → Rep w E σ' s v

theorem agg_free {cs : List SV} {k : Prop} (h : puresK cs k) : k ∧ FreeSV (.agg cs) := by
  obtain ⟨h1, h2⟩ := puresK_sound h
  refine ⟨h1, fun w E σ σ' v hr => ?_⟩
  cases hr with
  | agg hl ho hc => exact .agg hl ho fun i s v hs hv => h2 s (List.mem_of_getElem? hs) w E σ σ' v (hc i s v hs hv)
theorem free1K_sound {s : SV} {k : Prop} (h : free1K s k) : k ∧ FreeSV s := by
  cases s <;> simp only [free1K] at h
  case agg cs => exact agg_free h
  all_goals first
    | exact h.elim
    | (refine ⟨h, fun w E σ σ' v hr => ?_⟩; cases hr <;> constructor <;> assumption)
theorem freesK_sound {l : List SV} {k : Prop} (h : freesK l k) : k ∧ ∀ s ∈ l, FreeSV s := by
  induction l with
  | nil => exact ⟨h, by simp⟩
  | cons x xs ih =>
    obtain ⟨h1, h2⟩ := free1K_sound (show free1K x (freesK xs k) from h)
    obtain ⟨h3, h4⟩ := ih h1
    refine ⟨h3, fun s hs => ?_⟩
    rcases List.mem_cons.1 hs with rfl | hs
    · exact h2
    · exact h4 s hs
theorem freeK_sound {s : SV} {k : Prop} (h : freeK s k) : k ∧ FreeSV s := by
  cases s <;> simp only [freeK] at h
  case tup vs =>
    obtain ⟨h1, h2⟩ := freesK_sound h
    refine ⟨h1, fun w E σ σ' v hr => ?_⟩
    cases hr with
    | tup hl hc => exact .tup hl fun i s v hs hv => h2 s (List.mem_of_getElem? hs) w E σ σ' v (hc i s v hs hv)
  case agg cs => exact agg_free h
  all_goals first
    | exact h.elim
    | (refine ⟨h, fun w E σ σ' v hr => ?_⟩; cases hr <;> constructor <;> assumption)

/-! ### a function that only reckons -/
/-- A call of f at these arguments, in whatever heap, hands back what R says, and changes nothing that was there. -/
structure PSpec (P : Program) (f : FuncId) (args : List SV) (R : SV → Prop) : Prop where
  ok : ∀ (h : Hp) (K : SV → Hp → Prop), (∀ s, R s → K s h) → CallG P f args h K

theorem PSpec.call {f : FuncId} {args : List SV} {R : SV → Prop} (hs : PSpec P f args R) {h : Hp} {K : SV → Hp → Prop} (hk : ∀ s, R s → K s h) : CallG P f args h K := hs.ok h K hk
theorem PSpec.mono {f : FuncId} {args : List SV} {R R' : SV → Prop} (hs : PSpec P f args R) (hr : ∀ s, R s → R' s) : PSpec P f args R' :=
  ⟨fun h K hk => hs.ok h K fun s h => hk s (hr s h)⟩

theorem not_owned_nil (g : Nat) : ¬ Owned [] g := by rintro ⟨i, e, he, _⟩; simp at he
theorem ex_nil {X : Nat → Prop} {g : Nat} : Ex X [] g ↔ X g := ⟨fun h => h.resolve_right (not_owned_nil g), .inl⟩

/-- What was there stays as it was, whoever owns it. -/
theorem Inv.same {w w' : World} {X : Nat → Prop} {σ σ' : Sg} {h : Hp} (hI : Inv w X σ h) (hS : Step 0 w [] w' σ') : Inv w' X σ h ∧ Step σ.length w σ w' σ := by
  have hsame : ∀ g, g < w.heap.size → w'.heap[g]? = w.heap[g]? := fun g hg => hS.frame g hg (not_owned_nil g)
  have hS2 : Step σ.length w σ w' σ := ⟨hS.os, hS.tape, hS.output, hS.size, fun g hg _ => hsame g hg, fun g ho _ => ho, fun i e _ he _ => .inl he⟩
  refine ⟨⟨hI.len, fun i b e hb he => (hI.ok i b e hb he).step hS2 (Nat.le_refl _) fun g hg => hsame g (hI.lt i e g he hg), fun i e g he hg => Nat.lt_of_lt_of_le (hI.lt i e g he hg) hS.size, hI.inj, hI.dis, fun g hx => Nat.lt_of_lt_of_le (hI.xlt g hx) hS.size⟩, hS2⟩

theorem DoneS.mono {m : Sem Next} {w : World} {R R' : Value → World → Prop} (h : DoneS P m w R) (hr : ∀ v w', R v w' → R' v w') : DoneS P m w R' := by
  unfold DoneS at *
  generalize m.run P w = r at *
  cases r with
  | halt x w' => exact h.elim
  | ok n w' =>
    cases n <;> first | exact h.elim | exact hr _ _ h | exact h.mono fun e w'' ⟨v, he, h⟩ => ⟨v, he, hr _ _ h⟩

theorem PSpec.of_call {f : FuncId} {args : List SV} {R : SV → Prop} (ha : freesK args True) (hc : CallG P f args [] fun s _ => freeK s (R s)) : PSpec P f args R := by
  refine ⟨fun h K hk => ⟨fun w X σ vs hI hr => ?_⟩⟩
  have hfree := (freesK_sound ha).2
  have hex : ∀ g, Ex (Ex X σ) [] g ↔ Ex X σ g := fun g => ex_nil
  have hI0 : Inv w (Ex X σ) [] [] := ⟨rfl, by simp, by simp, by simp, fun g _ => not_owned_nil g, fun g hg => by
    rcases hg with hg | ⟨i, e, he, hg⟩
    · exact hI.xlt g hg
    · exact hI.lt i e g he hg⟩
  have hr0 : RepL w (Ex (Ex X σ) []) [] args vs := ⟨hr.1, fun i s v hs hv =>
    (hfree s (List.mem_of_getElem? hs) w _ σ [] v (hr.2 i s v hs hv)).mono [] (fun _ _ _ => rfl) (Nat.le_refl _) (fun g _ hn h => hn ((hex g).1 h)) (by simp)⟩
  refine (hc.ok w (Ex X σ) [] vs hI0 hr0).mono fun v w' ⟨s, h', σ', hf, hrep, hI', hS⟩ => ?_
  obtain ⟨hR, hfs⟩ := freeK_sound hf
  obtain ⟨hI2, hS2⟩ := hI.same hS
  exact ⟨s, h, σ, hk s hR, (hfs w' _ σ' σ v hrep).mono σ (fun _ _ _ => rfl) (Nat.le_refl _) (fun g _ hn h => hn (.inl h)) (fun i e he _ => .inl he), hI2, hS2⟩

theorem PSpec.of_code (hT : TabOK P T) {f : FuncId} {fn : Func} {c : Code} {args : List SV} {R : SV → Prop} (hf : P.funcs[f]? = some fn) (hn : (fn.name == "runtime.NumGoroutine") = false)
    (hb : fn.body = some c) (ha : freesK args True) (hk : startK args fn.ntmps fun F => codeK P T 0 c F [] (retK T fn fun s _ => freeK s (R s))) : PSpec P f args R :=
  .of_call ha (CallG.of_code hT hf hn hb hk)

/-! ### results, their Bools in one form -/
def norm1K (s : SV) (k : SV → Prop) : Prop :=
  match s with
  | .tt => k (.bool true) | .ff => k (.bool false) | .bool b => k (.bool b)
  | .int q n => k (.int q n) | .str s => k (.str s) | .nilp => k .nilp | .nils => k .nils | .rs z es => k (.rs z es) | .rp z es i f => k (.rp z es i f)
  | _ => False
noncomputable def norms1K (l : List SV) : (List SV → Prop) → Prop :=
  List.rec (motive := fun _ => (List SV → Prop) → Prop) (fun k => k []) (fun x _ ih k => norm1K x fun y => ih fun r => k (y :: r)) l
noncomputable def norm2K (s : SV) (k : SV → Prop) : Prop :=
  match s with
  | .agg cs => norms1K cs fun c => k (.agg c)
  | .tt => k (.bool true) | .ff => k (.bool false) | .bool b => k (.bool b)
  | .int q n => k (.int q n) | .str s => k (.str s) | .nilp => k .nilp | .nils => k .nils | .rs z es => k (.rs z es) | .rp z es i f => k (.rp z es i f)
  | _ => False
noncomputable def norms2K (l : List SV) : (List SV → Prop) → Prop :=
  List.rec (motive := fun _ => (List SV → Prop) → Prop) (fun k => k []) (fun x _ ih k => norm2K x fun y => ih fun r => k (y :: r)) l
noncomputable def outK (s : SV) (k : SV → Prop) : Prop :=
  match s with
  | .tup vs => norms2K vs fun l => k (.tup l)
  | .agg cs => norms1K cs fun c => k (.agg c)
  | .tt => k (.bool true) | .ff => k (.bool false) | .bool b => k (.bool b)
  | .int q n => k (.int q n) | .str s => k (.str s) | .nilp => k .nilp | .nils => k .nils | .rs z es => k (.rs z es) | .rp z es i f => k (.rp z es i f)
  | _ => False

/-- s' says of a value what s says, whatever one owns. -/
def To (s s' : SV) : Prop := ∀ (w : World) (E : Nat → Prop) (σ σ' : Sg) (v : Value), Rep w E σ s v → Rep w E σ' s' v
def ToL (l l' : List SV) : Prop := l.length = l'.length ∧ ∀ (i : Nat) (s s' : SV), l[i]? = some s → l'[i]? = some s' → To s s'

theorem norm1K_sound {s : SV} {k : SV → Prop} (h : norm1K s k) : ∃ s', k s' ∧ To s s' := by
  cases s <;> simp only [norm1K] at h
  all_goals first
    | exact h.elim
    | (refine ⟨_, h, fun w E σ σ' v hr => ?_⟩; cases hr <;> first | (constructor; done) | (constructor <;> assumption))
theorem list_sound {f : SV → (SV → Prop) → Prop} (hf : ∀ {s : SV} {k : SV → Prop}, f s k → ∃ s', k s' ∧ To s s') (l : List SV) : ∀ {k : List SV → Prop},
    List.rec (motive := fun _ => (List SV → Prop) → Prop) (fun k => k []) (fun x _ ih k => f x fun y => ih fun r => k (y :: r)) l k → ∃ l', k l' ∧ ToL l l' := by
  induction l with
  | nil => intro k h; exact ⟨[], h, rfl, by simp⟩
  | cons x l ih =>
    intro k h
    obtain ⟨y, h, hy⟩ := hf h
    obtain ⟨l', h, hl, hl'⟩ := ih h
    refine ⟨y :: l', h, by simp [hl], fun i s s' hs hs' => ?_⟩
    cases i with
    | zero => simp at hs hs'; subst hs; subst hs'; exact hy
    | succ i => exact hl' i s s' (by simpa using hs) (by simpa using hs')
theorem To.agg {l l' : List SV} (h : ToL l l') : To (.agg l) (.agg l') := by
  intro w E σ σ' v hr
  cases hr with
  | agg hl ho hc =>
    refine .agg (h.1 ▸ hl) ho fun i s v hs hv => ?_
    have hi : i < l.length := by rw [h.1]; exact (List.getElem?_eq_some_iff.1 hs).1
    exact h.2 i _ s (List.getElem?_eq_getElem hi) hs w E σ σ' v (hc i _ v (List.getElem?_eq_getElem hi) hv)
theorem To.tup {l l' : List SV} (h : ToL l l') : To (.tup l) (.tup l') := by
  intro w E σ σ' v hr
  cases hr with
  | tup hl hc =>
    refine .tup (h.1 ▸ hl) fun i s v hs hv => ?_
    have hi : i < l.length := by rw [h.1]; exact (List.getElem?_eq_some_iff.1 hs).1
    exact h.2 i _ s (List.getElem?_eq_getElem hi) hs w E σ σ' v (hc i _ v (List.getElem?_eq_getElem hi) hv)
theorem norm2K_sound {s : SV} {k : SV → Prop} (h : norm2K s k) : ∃ s', k s' ∧ To s s' := by
  cases s with
  | agg cs =>
    obtain ⟨l, h, hl⟩ := list_sound norm1K_sound cs (show norms1K cs _ from h)
    exact ⟨_, h, .agg hl⟩
  | _ => exact norm1K_sound (by first | exact h | exact h.elim)
theorem outK_sound {s : SV} {k : SV → Prop} (h : outK s k) : ∃ s', k s' ∧ To s s' := by
  cases s with
  | tup vs =>
    obtain ⟨l, h, hl⟩ := list_sound norm2K_sound vs (show norms2K vs _ from h)
    exact ⟨_, h, .tup hl⟩
  | agg cs =>
    obtain ⟨l, h, hl⟩ := list_sound norm1K_sound cs (show norms1K cs _ from h)
    exact ⟨_, h, .agg hl⟩
  | _ => exact norm1K_sound (by first | exact h | exact h.elim)

theorem PSpec.of_out {f : FuncId} {args : List SV} {R : SV → Prop} (ha : freesK args True) (hc : CallG P f args [] fun s _ => outK s R) : PSpec P f args R := by
  refine ⟨fun h K hk => ⟨fun w X σ vs hI hr => ?_⟩⟩
  have hfree := (freesK_sound ha).2
  have hex : ∀ g, Ex (Ex X σ) [] g ↔ Ex X σ g := fun g => ex_nil
  have hI0 : Inv w (Ex X σ) [] [] := ⟨rfl, by simp, by simp, by simp, fun g _ => not_owned_nil g, fun g hg => by
    rcases hg with hg | ⟨i, e, he, hg⟩
    · exact hI.xlt g hg
    · exact hI.lt i e g he hg⟩
  have hr0 : RepL w (Ex (Ex X σ) []) [] args vs := ⟨hr.1, fun i s v hs hv =>
    (hfree s (List.mem_of_getElem? hs) w _ σ [] v (hr.2 i s v hs hv)).mono [] (fun _ _ _ => rfl) (Nat.le_refl _) (fun g _ hn h => hn ((hex g).1 h)) (by simp)⟩
  refine (hc.ok w (Ex X σ) [] vs hI0 hr0).mono fun v w' ⟨s, h', σ', hf, hrep, hI', hS⟩ => ?_
  obtain ⟨s', hR, hto⟩ := outK_sound hf
  obtain ⟨hI2, hS2⟩ := hI.same hS
  exact ⟨s', h, σ, hk s' hR, (hto w' _ σ' σ v hrep).mono σ (fun _ _ _ => rfl) (Nat.le_refl _) (fun g _ hn h => hn (.inl h)) (fun i e he _ => .inl he), hI2, hS2⟩

theorem PSpec.of_code' (hT : TabOK P T) {f : FuncId} {fn : Func} {c : Code} {args : List SV} {R : SV → Prop} (hf : P.funcs[f]? = some fn) (hn : (fn.name == "runtime.NumGoroutine") = false)
    (hb : fn.body = some c) (ha : freesK args True) (hk : startK args fn.ntmps fun F => codeK P T 0 c F [] (retK T fn fun s _ => outK s R)) : PSpec P f args R :=
  .of_out ha (CallG.of_code hT hf hn hb hk)

/-! ### externs -/
theorem PSpec.of_value {f : FuncId} {args : List SV} {R : SV → Prop} {s : SV} (hR : R s)
    (hrun : ∀ (w : World) (E : Nat → Prop) (σ : Sg) (vs : List Value), RepL w E σ args vs → ∃ v, (callFunc f vs.toArray).run P w = .ok (.value v) w ∧ Rep w E σ s v) : PSpec P f args R :=
  ⟨fun h K hk => ⟨fun w X σ vs hI hr => by
    obtain ⟨v, hv, hrep⟩ := hrun w _ σ vs hr
    unfold DoneS
    rw [hv]
    exact ⟨s, h, σ, hk s hR, hrep, hI, .refl _ _ _⟩⟩⟩

/-! ### from a contract to a law -/
def TrueS (s : SV) : Prop :=
  match s with
  | .tt => True
  | .bool b => b = true
  | _ => False
theorem law_calls {f : FuncId} {fn : Func} {c : Code} {args : List SV} (hf : P.funcs[f]? = some fn) (hn : (fn.name == "runtime.NumGoroutine") = false) (hb : fn.body = some c)
    (hs : PSpec P f args TrueS) {w : World} {vs : List Value} (hr : RepL w (fun _ => False) [] args vs) :
    Calls P f vs.toArray w fun e w' => e = .returned (.bool true) ∧ RowKit.Below w.heap.size w w' := by
  have hI : Inv w (fun _ => False) [] [] := ⟨rfl, by simp, by simp, by simp, fun g h => h.elim, fun g h => h.elim⟩
  have hr' : RepL w (Ex (fun _ => False) []) [] args vs := ⟨hr.1, fun i s v hs hv => (hr.2 i s v hs hv).mono [] (fun _ _ _ => rfl) (Nat.le_refl _) (fun g _ _ h => ex_nil.1 h) (by simp)⟩
  have := (hs.ok [] (fun s _ => TrueS s) fun s h => h).ok w (fun _ => False) [] vs hI hr'
  have hcall : (callFunc f vs.toArray).run P w = .ok (.enter f vs.toArray) w := by
    have h1 : fn.name ≠ "runtime.NumGoroutine" := by simpa using hn
    simp [callFunc, hf, h1, hb]
  unfold DoneS at this
  rw [hcall] at this
  refine this.mono fun e w' ⟨v, he, s, h', σ', ht, hrep, _, hS⟩ => ⟨?_, ⟨hS.os, hS.tape, hS.output, hS.size, fun k hk => hS.frame k hk (not_owned_nil k)⟩⟩
  rw [he]
  cases hrep <;> simp only [TrueS] at ht
  · rfl
  · rw [ht]
end
end Go.Sx

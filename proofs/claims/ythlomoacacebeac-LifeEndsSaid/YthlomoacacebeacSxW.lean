/- Functions that are handed blocks of the caller's. No statement of the seat is proved here. -/
import Derived.Test.YthlomoacacebeacSxV
namespace Go.Sx
section
variable {P : Program} {T : Tab}

/-- A call of f at these arguments, where the blocks that it is handed are as 'hin' says (and no others are at hand): it hands back s and leaves those blocks as 'ho' says, of which R holds. -/
structure OSpec (P : Program) (f : FuncId) (args : List SV) (hin : Hp) (R : SV → Hp → Prop) : Prop where
  fin : ∀ b ∈ hin, FreeBlk b
  ok : ∀ (w : World) (X : Nat → Prop) (σ : Sg) (vs : List Value), Inv w X σ hin → RepL w (Ex X σ) σ args vs → DoneS P (callFunc f vs.toArray) w fun v w' =>
    ∃ s ho σ', R s ho ∧ ho.length = hin.length ∧ FreeSV s ∧ (∀ b ∈ ho, FreeBlk b) ∧ Rep w' (Ex X σ') [] s v ∧ Inv w' X σ' ho ∧ Step hin.length w σ w' σ'

def freeBlkK (b : Blk) (k : Prop) : Prop := match b with | .fix _ cs => puresK cs k | .row _ _ _ => k | .dead => k | .fresh => False
noncomputable def freeBlksK (l : Hp) (k : Prop) : Prop := List.rec (motive := fun _ => Prop) k (fun b _ ih => freeBlkK b ih) l
theorem freeBlksK_sound {l : Hp} {k : Prop} (h : freeBlksK l k) : k ∧ ∀ b ∈ l, FreeBlk b := by
  induction l with
  | nil => exact ⟨h, by simp⟩
  | cons b l ih =>
    have h : freeBlkK b (freeBlksK l k) := h
    have key : freeBlksK l k ∧ FreeBlk b := by
      cases b with
      | fix t cs => obtain ⟨h1, h2⟩ := puresK_sound h; exact ⟨h1, h2⟩
      | row t z es => exact ⟨h, trivial⟩
      | dead => exact ⟨h, trivial⟩
      | fresh => exact h.elim
    obtain ⟨h1, h2⟩ := ih key.1
    refine ⟨h1, fun c hc => ?_⟩
    rcases List.mem_cons.1 hc with rfl | hc
    · exact key.2
    · exact h2 c hc

theorem Inv.cut {w : World} {X : Nat → Prop} {σ : Sg} {h : Hp} (hI : Inv w X σ h) (k : Nat) (hf : ∀ b ∈ h.take k, FreeBlk b) :
    Inv w X (σ.take k) (h.take k) ∧ (∀ g, Owned (σ.take k) g → Owned σ g) := by
  have hget : ∀ (i : Nat) (e : Ent), (σ.take k)[i]? = some e → i < k ∧ σ[i]? = some e := by
    intro i e he
    rw [List.getElem?_take] at he
    split at he
    · rename_i hi; exact ⟨hi, he⟩
    · simp at he
  have hown : ∀ g, Owned (σ.take k) g → Owned σ g := fun g ⟨i, e, he, hg⟩ => ⟨i, e, (hget i e he).2, hg⟩
  refine ⟨⟨by simp [hI.len], fun i b e hb he => ?_, fun i e g he hg => hI.lt i e g (hget i e he).2 hg, fun i j e e' g hi hj hg hg' => hI.inj i j e e' g (hget i e hi).2 (hget j e' hj).2 hg hg', fun g hx ho => hI.dis g hx (hown g ho), hI.xlt⟩, hown⟩
  have hfb := hf b (List.mem_of_getElem? hb)
  rw [List.getElem?_take] at hb
  split at hb
  · exact (hI.ok i b e hb (hget i e he).2).free hfb fun g hx => hx.elim .inl fun ho => .inr (hown g ho)
  · simp at hb

theorem OSpec.of_call {f : FuncId} {args : List SV} {hin : Hp} {R : SV → Hp → Prop} (hfin : ∀ b ∈ hin, FreeBlk b)
    (hc : CallG P f args hin fun s h' => outHK hin.length h' s fun s' => takeK hin.length h' fun ho => freeBlksK ho (R s' ho)) : OSpec P f args hin R := by
  refine ⟨hfin, fun w X σ vs hI hr => (hc.ok w X σ vs hI hr).mono fun v w' ⟨s, h', σ', hk, hrep, hI', hS⟩ => ?_⟩
  obtain ⟨s', hk, hto, hfs⟩ := outHK_sound hk
  obtain ⟨hlen, hk⟩ := takeK_sound hk
  obtain ⟨hR, hfb⟩ := freeBlksK_sound hk
  obtain ⟨hI2, hown⟩ := hI'.cut hin.length hfb
  have hE : ∀ g, Ex X (σ'.take hin.length) g → Ex X σ' g := fun g hx => hx.elim .inl fun ho => .inr (hown g ho)
  refine ⟨s', _, σ'.take hin.length, hR, by simp [hlen], hfs, hfb, hto w' X σ' _ v hI' hE (fun i e g hi he hg hx => ?_) hrep, hI2, ⟨hS.os, hS.tape, hS.output, hS.size, hS.frame, fun g ho hg => hS.blks g (hown g ho) hg, fun i e hi he hf => ?_⟩⟩
  · rcases hx with hx | ⟨j, e', he', hg'⟩
    · exact hI'.dis g hx ⟨i, e, he, hg⟩
    · rw [List.getElem?_take] at he'
      split at he'
      · rename_i hj
        have := hI'.inj i j e e' g he he' hg hg'
        omega
      · simp at he'
  · rw [List.getElem?_take, if_pos hi]
    exact hS.ents i e (by rw [hI.len]; exact hi) he hf

theorem OSpec.of_code (hT : TabOK P T) {f : FuncId} {fn : Func} {c : Code} {args : List SV} {hin : Hp} {R : SV → Hp → Prop} (hf : P.funcs[f]? = some fn) (hn : (fn.name == "runtime.NumGoroutine") = false)
    (hb : fn.body = some c) (hfin : freeBlksK hin True)
    (hk : startK args fn.ntmps fun F => codeK P T hin.length c F hin (retK T fn fun s h' => outHK hin.length h' s fun s' => takeK hin.length h' fun ho => freeBlksK ho (R s' ho))) : OSpec P f args hin R :=
  .of_call (freeBlksK_sound hfin).2 (CallG.of_code hT hf hn hb hk)
theorem OSpec.mono {f : FuncId} {args : List SV} {hin : Hp} {R R' : SV → Hp → Prop} (hs : OSpec P f args hin R) (hr : ∀ s h, R s h → R' s h) : OSpec P f args hin R' :=
  ⟨hs.fin, fun w X σ vs hI hrp => (hs.ok w X σ vs hI hrp).mono fun _ _ ⟨s, ho, σ', h1, h2⟩ => ⟨s, ho, σ', hr _ _ h1, h2⟩⟩

/-! ### at the caller's -/
def argK (ρ : List Nat) (s s' : SV) (k : Prop) : Prop :=
  match s with
  | .ptr b o => match s' with | .ptr b' o' => nthK ρ b fun j => eqNK j b' (eqNK o o' k) | _ => False
  | .sl b => match s' with | .sl b' => nthK ρ b fun j => eqNK j b' k | _ => False
  | s => s' = s ∧ free1K s k
noncomputable def argsK (ρ : List Nat) (l : List SV) : List SV → Prop → Prop :=
  List.rec (motive := fun _ => List SV → Prop → Prop) (fun l' k => List.rec (motive := fun _ => Prop) k (fun _ _ _ => False) l')
    (fun s _ ih l' k => List.rec (motive := fun _ => Prop) False (fun s' t' _ => argK ρ s s' (ih t' k)) l') l
noncomputable def insK (h : Hp) (ρ : List Nat) : Hp → Prop → Prop :=
  List.rec (motive := fun _ => Hp → Prop → Prop) (fun hin k => List.rec (motive := fun _ => Prop) k (fun _ _ _ => False) hin)
    (fun j _ ih hin k => List.rec (motive := fun _ => Prop) False (fun b t _ => nthK h j fun b' => b' = b ∧ ih t k) hin) ρ
/-- The caller's blocks, after the call. -/
noncomputable def backK (ρ : List Nat) : Hp → Hp → (Hp → Prop) → Prop :=
  List.rec (motive := fun _ => Hp → Hp → (Hp → Prop) → Prop) (fun _ h K => K h)
    (fun j _ ih ho h K => List.rec (motive := fun _ => Prop) False (fun b t _ => setK h j b fun h' => ih t h' K) ho) ρ
def back (ρ : List Nat) (ho h : Hp) : Hp := upd (ρ.zip ho) h

theorem backK_sound (ρ : List Nat) : ∀ {ho h : Hp} {K : Hp → Prop}, backK ρ ho h K → K (back ρ ho h) := by
  induction ρ with
  | nil => intro ho h K hk; exact hk
  | cons j ρ ih =>
    intro ho h K hk
    cases ho with
    | nil => exact hk.elim
    | cons b ho => exact ih (setK_sound (show setK h j b _ from hk)).2
theorem insK_sound {h : Hp} (ρ : List Nat) : ∀ {hin : Hp} {k : Prop}, insK h ρ hin k → k ∧ ρ.length = hin.length ∧ ∀ (i j : Nat) (b : Blk), ρ[i]? = some j → hin[i]? = some b → h[j]? = some b := by
  induction ρ with
  | nil =>
    intro hin k hk
    cases hin with
    | nil => exact ⟨hk, rfl, by simp⟩
    | cons b t => exact hk.elim
  | cons j ρ ih =>
    intro hin k hk
    cases hin with
    | nil => exact hk.elim
    | cons b t =>
      obtain ⟨b', hb, e, hk2⟩ := nthK_sound (show nthK h j _ from hk)
      subst e
      obtain ⟨hk, hl, hr⟩ := ih hk2
      refine ⟨hk, by simp [hl], fun i j' c hi hc => ?_⟩
      cases i with
      | zero => simp at hi hc; subst hi; subst hc; exact hb
      | succ i => exact hr i j' c (by simpa using hi) (by simpa using hc)

/-- The entries of the blocks that are handed over. -/
def pickSg (σ : Sg) (ρ : List Nat) : Sg := ρ.map fun j => σ.getD j .dead

theorem argK_sound {ρ : List Nat} {s s' : SV} {k : Prop} (h : argK ρ s s' k) : k ∧ ∀ (w : World) (E E' : Nat → Prop) (σ : Sg) (v : Value), (∀ g, E' g → E g) → (∀ j ∈ ρ, j < σ.length) → Rep w E σ s' v → Rep w E' (pickSg σ ρ) s v := by
  have hpick : ∀ (σ : Sg) (b j : Nat) (e : Ent), ρ[b]? = some j → σ[j]? = some e → (pickSg σ ρ)[b]? = some e := by
    intro σ b j e hb he
    simp [pickSg, hb, List.getD, he]
  have same : ∀ {s s' : SV} {k : Prop}, (s' = s ∧ free1K s k) → k ∧ ∀ (w : World) (E E' : Nat → Prop) (σ : Sg) (v : Value), (∀ g, E' g → E g) → (∀ j ∈ ρ, j < σ.length) → Rep w E σ s' v → Rep w E' (pickSg σ ρ) s v := by
    intro s s' k ⟨e, h⟩
    subst e
    obtain ⟨h, hf⟩ := free1K_sound h
    exact ⟨h, fun w E E' σ v hE _ hr => (hf w E σ [] v hr).le hE _⟩
  cases s with
  | ptr b o =>
    cases s' with
    | ptr b' o' =>
      obtain ⟨j, hj, h⟩ := nthK_sound (show nthK ρ b _ from h)
      obtain ⟨e1, h⟩ := eqNK_sound h
      obtain ⟨e2, h2⟩ := eqNK_sound h
      subst e1; subst e2
      refine ⟨h2, fun w E E' σ v _ _ hr => ?_⟩
      cases hr with
      | ptr hg => exact .ptr (hpick σ b _ _ hj hg)
      | ptrD hg => exact .ptrD (hpick σ b _ _ hj hg)
    | _ => exact h.elim
  | sl b =>
    cases s' with
    | sl b' =>
      obtain ⟨j, hj, h⟩ := nthK_sound (show nthK ρ b _ from h)
      obtain ⟨e1, h2⟩ := eqNK_sound h
      subst e1
      refine ⟨h2, fun w E E' σ v _ _ hr => ?_⟩
      cases hr with
      | sl hg => exact .sl (hpick σ b _ _ hj hg)
      | slN hg => exact .slN (hpick σ b _ _ hj hg)
      | slD hg => exact .slD (hpick σ b _ _ hj hg)
    | _ => exact h.elim
  | _ => exact same h
theorem argsK_sound {ρ : List Nat} (l : List SV) : ∀ {l' : List SV} {k : Prop}, argsK ρ l l' k → k ∧ ∀ (w : World) (E E' : Nat → Prop) (σ : Sg) (vs : List Value), (∀ g, E' g → E g) → (∀ j ∈ ρ, j < σ.length) → RepL w E σ l' vs → RepL w E' (pickSg σ ρ) l vs := by
  induction l with
  | nil =>
    intro l' k h
    cases l' with
    | nil => exact ⟨h, fun w E E' σ vs _ _ hr => ⟨hr.1, by simp⟩⟩
    | cons x t => exact h.elim
  | cons s l ih =>
    intro l' k h
    cases l' with
    | nil => exact h.elim
    | cons s' l' =>
      obtain ⟨h, h1⟩ := argK_sound (show argK ρ s s' (argsK ρ l l' k) from h)
      obtain ⟨h, h2⟩ := ih h
      refine ⟨h, fun w E E' σ vs hE hρ hr => ?_⟩
      cases vs with
      | nil => exact absurd hr.1 (by simp)
      | cons v vs =>
        exact repl_cons (h1 w E E' σ v hE hρ (hr.2 0 _ _ rfl rfl)) (h2 w E E' σ vs hE hρ ⟨by simpa using hr.1, fun i a c ha hc => hr.2 (i + 1) a c (by simpa using ha) (by simpa using hc)⟩)

theorem upd_at (l : List (Nat × Blk)) : ∀ {h : Hp}, (l.map (·.1)).Nodup → ∀ p ∈ l, p.1 < h.length → (upd l h)[p.1]? = some p.2 := by
  induction l with
  | nil => intro h _ p hp; simp at hp
  | cons q l ih =>
    intro h hn p hp hlt
    rw [List.map_cons, List.nodup_cons] at hn
    rcases List.mem_cons.1 hp with rfl | hp
    · have : (upd l (h.set p.1 p.2))[p.1]? = (h.set p.1 p.2)[p.1]? := upd_get l fun r hr he => hn.1 (by rw [← he]; exact List.mem_map.2 ⟨r, hr, rfl⟩)
      show (upd l (h.set p.1 p.2))[p.1]? = _
      rw [this, List.getElem?_set, if_pos rfl, if_pos hlt]
    · exact ih (h := h.set q.1 q.2) hn.2 p hp (by simpa using hlt)
end
end Go.Sx

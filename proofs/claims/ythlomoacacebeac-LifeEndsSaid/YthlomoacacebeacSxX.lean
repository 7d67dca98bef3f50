/- Functions that are handed blocks of the caller's: at the caller's. No statement of the seat is proved here. -/
import Derived.Test.YthlomoacacebeacSxW
namespace Go.Sx
section
variable {P : Program} {T : Tab}

theorem upd_ext {α : Type} (l : List (Nat × α)) : ∀ {h : List α} {r : Nat}, (∀ p ∈ l, p.1 ≠ r) → (l.foldl (fun h p => h.set p.1 p.2) h)[r]? = h[r]? := by
  induction l with
  | nil => intro h r _; rfl
  | cons p l ih =>
    intro h r hr
    rw [List.foldl_cons, ih fun q hq => hr q (by simp [hq]), List.getElem?_set, if_neg (hr p (by simp))]
theorem upd_hit {α : Type} (l : List (Nat × α)) : ∀ {h : List α}, (l.map (·.1)).Nodup → ∀ p ∈ l, p.1 < h.length → (l.foldl (fun h p => h.set p.1 p.2) h)[p.1]? = some p.2 := by
  induction l with
  | nil => intro h _ p hp; simp at hp
  | cons q l ih =>
    intro h hn p hp hlt
    rw [List.map_cons, List.nodup_cons] at hn
    rw [List.foldl_cons]
    rcases List.mem_cons.1 hp with rfl | hp
    · rw [upd_ext l fun r hr he => hn.1 (by rw [← he]; exact List.mem_map.2 ⟨r, hr, rfl⟩), List.getElem?_set, if_pos rfl, if_pos hlt]
    · exact ih (h := h.set q.1 q.2) hn.2 p hp (by simpa using hlt)
theorem upd_size {α : Type} (l : List (Nat × α)) : ∀ {h : List α}, (l.foldl (fun h p => h.set p.1 p.2) h).length = h.length := by
  induction l with
  | nil => intro h; rfl
  | cons p l ih => intro h; rw [List.foldl_cons, ih]; simp

/-- THE CALL, AT THE CALLER's. -/
theorem OSpec.run {f : FuncId} {args args' : List SV} {hin : Hp} {R : SV → Hp → Prop} (hs : OSpec P f args hin R) {ρ : List Nat} {h : Hp} (hn : ρ.Nodup) (ha : argsK ρ args args' True) (hh : insK h ρ hin True)
    {w : World} {X : Nat → Prop} {σ : Sg} {h2 : Hp} {vs : List Value} (hI : Inv w X σ h2) (hag : ∀ j ∈ ρ, h2[j]? = h[j]?) (hr : RepL w (Ex X σ) σ args' vs) :
    DoneS P (callFunc f vs.toArray) w fun v w' => ∃ s ho σ', R s ho ∧ FreeSV s ∧ Rep w' (Ex X σ') σ' s v ∧ Inv w' X σ' (back ρ ho h2) ∧ Step σ.length w σ w' σ' := by
  obtain ⟨_, hlen, hins⟩ := insK_sound ρ hh
  have hin2 : ∀ (i j : Nat) (b : Blk), ρ[i]? = some j → hin[i]? = some b → h2[j]? = some b := fun i j b hi hb => by rw [hag j (List.mem_of_getElem? hi)]; exact hins i j b hi hb
  have hlt : ∀ j ∈ ρ, j < σ.length := by
    intro j hj
    obtain ⟨i, hi⟩ := List.mem_iff_getElem?.1 hj
    have hil : i < hin.length := by rw [← hlen]; exact (List.getElem?_eq_some_iff.1 hi).1
    rw [hI.len]
    exact (List.getElem?_eq_some_iff.1 (hin2 i j _ hi (List.getElem?_eq_getElem hil))).1
  have hpg : ∀ (i : Nat) (e : Ent), (pickSg σ ρ)[i]? = some e → ∃ j, ρ[i]? = some j ∧ σ[j]? = some e := by
    intro i e he
    simp only [pickSg, List.getElem?_map] at he
    cases hj : ρ[i]? with
    | none => rw [hj] at he; simp at he
    | some j =>
      rw [hj] at he
      simp at he
      have := hlt j (List.mem_of_getElem? hj)
      refine ⟨j, rfl, ?_⟩
      rw [← he]
      simp [List.getElem?_eq_getElem this]
  have hgp : ∀ (i j : Nat) (e : Ent), ρ[i]? = some j → σ[j]? = some e → (pickSg σ ρ)[i]? = some e := by
    intro i j e hi he
    simp [pickSg, hi, List.getD, he]
  have hpo : ∀ g, Owned (pickSg σ ρ) g → Owned σ g := fun g ⟨i, e, he, hg⟩ => by
    obtain ⟨j, _, hj⟩ := hpg i e he
    exact ⟨j, e, hj, hg⟩
  -- what the callee must leave alone: all that the caller owns and does not hand over
  let X0 : Nat → Prop := fun g => Ex X σ g ∧ ¬ Owned (pickSg σ ρ) g
  have hEx : ∀ g, Ex X0 (pickSg σ ρ) g ↔ Ex X σ g := fun g => by
    constructor
    · rintro (⟨h1, _⟩ | h1)
      · exact h1
      · exact .inr (hpo g h1)
    · intro h1
      by_cases h2 : Owned (pickSg σ ρ) g
      · exact .inr h2
      · exact .inl ⟨h1, h2⟩
  have hlt0 : ∀ g, Ex X σ g → g < w.heap.size := fun g hx => hx.elim (hI.xlt g) fun ⟨i, e, he, hg⟩ => hI.lt i e g he hg
  have hidx : ∀ (i i' j : Nat), ρ[i]? = some j → ρ[i']? = some j → i = i' := by
    intro i i' j hi hi'
    exact (List.getElem?_inj (List.getElem?_eq_some_iff.1 hi).1 hn).1 (hi.trans hi'.symm)
  have hI0 : Inv w X0 (pickSg σ ρ) hin := by
    refine ⟨by simp [pickSg, hlen], fun i b e hb he => ?_, fun i e g he hg => ?_, fun i i' e e' g he he' hg hg' => ?_, fun g hx => hx.2, fun g hx => hlt0 g hx.1⟩
    · obtain ⟨j, hj, he⟩ := hpg i e he
      exact (hI.ok j b e (hin2 i j b hj hb) he).free (hs.fin b (List.mem_of_getElem? hb)) fun g hx => (hEx g).1 hx
    · obtain ⟨j, _, he⟩ := hpg i e he
      exact hI.lt j e g he hg
    · obtain ⟨j, hj, he⟩ := hpg i e he
      obtain ⟨j', hj', he'⟩ := hpg i' e' he'
      have := hI.inj j j' e e' g he he' hg hg'
      subst this
      exact hidx i i' j hj hj'
  have hr0 := (argsK_sound args ha).2 w (Ex X σ) (Ex X0 (pickSg σ ρ)) σ vs (fun g hx => (hEx g).1 hx) hlt hr
  refine (hs.ok w X0 (pickSg σ ρ) vs hI0 hr0).mono fun v w' ⟨s, ho, σ0, hR, hol, hfs, hfb, hrep, hI1, hS⟩ => ?_
  have hσ0l : σ0.length = ρ.length := by rw [hI1.len, hol, hlen]
  have hmapz : (ρ.zip σ0).map (·.1) = ρ := by rw [List.map_fst_zip]; omega
  have hmapb : (ρ.zip ho).map (·.1) = ρ := by rw [List.map_fst_zip]; omega
  let σ' : Sg := (ρ.zip σ0).foldl (fun h p => h.set p.1 p.2) σ
  have hl' : σ'.length = σ.length := upd_size _
  have hnot : ∀ i, i ∉ ρ → σ'[i]? = σ[i]? := fun i hi => upd_ext _ fun p hp he => hi (by rw [← he, ← hmapz]; exact List.mem_map.2 ⟨p, hp, rfl⟩)
  have hnotb : ∀ i, i ∉ ρ → (back ρ ho h2)[i]? = h2[i]? := fun i hi => upd_get _ fun p hp he => hi (by rw [← he, ← hmapb]; exact List.mem_map.2 ⟨p, hp, rfl⟩)
  have hhit : ∀ (i j : Nat) (e : Ent), ρ[i]? = some j → σ0[i]? = some e → σ'[j]? = some e := fun i j e hi he => by
    have hm : (j, e) ∈ ρ.zip σ0 := List.mem_of_getElem? (i := i) (by rw [List.getElem?_zip_eq_some]; exact ⟨hi, he⟩)
    exact upd_hit _ (by rw [hmapz]; exact hn) (j, e) hm (hlt j (List.mem_of_getElem? hi))
  have hhitb : ∀ (i j : Nat) (b : Blk), ρ[i]? = some j → ho[i]? = some b → (back ρ ho h2)[j]? = some b := fun i j b hi hb => by
    have hm : (j, b) ∈ ρ.zip ho := List.mem_of_getElem? (i := i) (by rw [List.getElem?_zip_eq_some]; exact ⟨hi, hb⟩)
    exact upd_at _ (by rw [hmapb]; exact hn) (j, b) hm (by rw [← hI.len]; exact hlt j (List.mem_of_getElem? hi))
  have hwho : ∀ (i : Nat) (e : Ent), σ'[i]? = some e → (i ∉ ρ ∧ σ[i]? = some e) ∨ (∃ k : Nat, ρ[k]? = some i ∧ σ0[k]? = some e) := by
    intro i e he
    by_cases hi : i ∈ ρ
    · obtain ⟨k, hk⟩ := List.mem_iff_getElem?.1 hi
      have hkl : k < σ0.length := by rw [hσ0l]; exact (List.getElem?_eq_some_iff.1 hk).1
      have := hhit k i _ hk (List.getElem?_eq_getElem hkl)
      rw [this] at he
      exact .inr ⟨k, hk, by rw [← he]; exact List.getElem?_eq_getElem hkl⟩
    · rw [hnot i hi] at he; exact .inl ⟨hi, he⟩
  have hσlt : ∀ (i : Nat) (e : Ent) (g : Nat), i ∉ ρ → σ[i]? = some e → e.blk = some g → X0 g := by
    intro i e g hi he hg
    refine ⟨.inr ⟨i, e, he, hg⟩, fun ⟨k, e', he', hg'⟩ => ?_⟩
    obtain ⟨j, hj, he'⟩ := hpg k e' he'
    have := hI.inj i j e e' g he he' hg hg'
    subst this
    exact hi (List.mem_of_getElem? hj)
  have hE' : ∀ g, Ex X σ' g → Ex X0 σ0 g := by
    rintro g (hx | ⟨i, e, he, hg⟩)
    · exact .inl ⟨.inl hx, fun ho => hI.dis g hx (hpo g ho)⟩
    · rcases hwho i e he with ⟨hi, he⟩ | ⟨k, hk, he⟩
      · exact .inl (hσlt i e g hi he hg)
      · exact .inr ⟨k, e, he, hg⟩
  have hS' : Step σ.length w σ w' σ' := by
    refine ⟨hS.os, hS.tape, hS.output, hS.size, fun g hg ho => hS.frame g hg fun h => ho (hpo g h), fun g ⟨i, e, he, hg⟩ hlt' => ?_, fun i e hi he hf => ?_⟩
    · rcases hwho i e he with ⟨_, he⟩ | ⟨k, hk, he⟩
      · exact ⟨i, e, he, hg⟩
      · exact hpo g (hS.blks g ⟨k, e, he, hg⟩ hlt')
    · by_cases hi' : i ∈ ρ
      · obtain ⟨k, hk⟩ := List.mem_iff_getElem?.1 hi'
        have hkl : k < hin.length := by rw [← hlen]; exact (List.getElem?_eq_some_iff.1 hk).1
        exact (hS.ents k e hkl (hgp k i e hk he) hf).imp (hhit k i _ hk) (hhit k i _ hk)
      · rw [hnot i hi']; exact .inl he
  refine ⟨s, ho, σ', hR, hfs, hrep.le hE' σ', ⟨by rw [hl', hI.len]; exact (upd_len _).symm, fun i b e hb he => ?_, fun i e g he hg => ?_, fun i j e e' g hi hj hg hg' => ?_, fun g hx hown => ?_, fun g hx => Nat.lt_of_lt_of_le (hI.xlt g hx) hS.size⟩, hS'⟩
  · rcases hwho i e he with ⟨hi, he⟩ | ⟨k, hk, he⟩
    · rw [hnotb i hi] at hb
      refine (hI.ok i b e hb he).step hS' (Nat.le_refl _) fun g hg => hS.frame g (hI.lt i e g he hg) fun hown => (hσlt i e g hi he hg).2 hown
    · have hkl : k < ho.length := by rw [hol, ← hlen]; exact (List.getElem?_eq_some_iff.1 hk).1
      rw [hhitb k i _ hk (List.getElem?_eq_getElem hkl)] at hb
      simp at hb
      subst hb
      exact (hI1.ok k _ e (List.getElem?_eq_getElem hkl) he).free (hfb _ (List.getElem_mem hkl)) hE'
  · rcases hwho i e he with ⟨_, he⟩ | ⟨k, hk, he⟩
    · exact Nat.lt_of_lt_of_le (hI.lt i e g he hg) hS.size
    · exact hI1.lt k e g he hg
  · rcases hwho i e hi with ⟨hir, hie⟩ | ⟨k, hk, hke⟩
    · rcases hwho j e' hj with ⟨hjr, hje⟩ | ⟨l, hl, hle⟩
      · exact hI.inj i j e e' g hie hje hg hg'
      · exact absurd ⟨l, e', hle, hg'⟩ (hI1.dis g (hσlt i e g hir hie hg))
    · rcases hwho j e' hj with ⟨hjr, hje⟩ | ⟨l, hl, hle⟩
      · exact absurd ⟨k, e, hke, hg⟩ (hI1.dis g (hσlt j e' g hjr hje hg'))
      · have := hI1.inj k l e e' g hke hle hg hg'
        subst this
        rw [hk] at hl
        exact Option.some.inj hl
  · obtain ⟨i, e, he, hg⟩ := hown
    rcases hwho i e he with ⟨_, he⟩ | ⟨k, hk, he⟩
    · exact hI.dis g hx ⟨i, e, he, hg⟩
    · exact hI1.dis g ⟨.inl hx, fun ho => hI.dis g hx (hpo g ho)⟩ ⟨k, e, he, hg⟩

theorem OSpec.call {f : FuncId} {args args' : List SV} {hin : Hp} {R : SV → Hp → Prop} (hs : OSpec P f args hin R) (ρ : List Nat) (hn : ρ.Nodup) {h : Hp} {K : SV → Hp → Prop}
    (ha : argsK ρ args args' True) (hh : insK h ρ hin True) (hk : ∀ s ho, R s ho → backK ρ ho h (K s)) : CallG P f args' h K :=
  ⟨fun _ _ _ _ hI hr => (hs.run hn ha hh hI (fun _ _ => rfl) hr).mono fun _ _ ⟨s, ho, σ', hR, _, hrep, hI', hS⟩ => ⟨s, _, σ', backK_sound ρ (hk s ho hR), hrep, hI', hS⟩⟩
theorem OSpec.calld {f : FuncId} {args args' : List SV} {hin : Hp} {s : SV} {ho : Hp} (hs : OSpec P f args hin fun s' ho' => s' = s ∧ ho' = ho) (ρ : List Nat) (hn : ρ.Nodup) {h : Hp} {nid : Nat} {K : Kop}
    (hl : ho.length = ρ.length) (ha : argsK ρ args args' True) (hh : insK h ρ hin True) (hk : K s (ρ.zip ho) ρ) : CallD P f args' h nid K :=
  ⟨s, ρ.zip ho, ρ, hk, ⟨fun _ _ _ _ _ hI hr hag => (hs.run hn ha hh hI hag hr).mono fun _ _ ⟨s', ho', σ', ⟨e1, e2⟩, _, hrep, hI', hS⟩ => by
    subst e1; subst e2
    exact ⟨σ', hrep, hI', hS, by rw [hI'.len, hI.len]; exact upd_len _⟩, fun p hp => (List.of_mem_zip hp).1⟩⟩
theorem OSpec.len {f : FuncId} {args : List SV} {hin : Hp} {R : SV → Hp → Prop} (hs : OSpec P f args hin R) : OSpec P f args hin fun s ho => R s ho ∧ ho.length = hin.length :=
  ⟨hs.fin, fun w X σ vs hI hrp => (hs.ok w X σ vs hI hrp).mono fun _ _ ⟨s, ho, σ', h1, h2, h3⟩ => ⟨s, ho, σ', ⟨h1, h2⟩, h2, h3⟩⟩
theorem puresK_mono {l : List SV} {k k' : Prop} (hk : k → k') : puresK l k → puresK l k' := by
  induction l with
  | nil => exact hk
  | cons x l ih =>
    intro h
    have h : pureK x (puresK l k) := h
    show pureK x (puresK l k')
    cases x <;> first | exact h.elim | exact ih h
/-- A function that is handed none. -/
theorem OSpec.pure {f : FuncId} {args : List SV} {R : SV → Hp → Prop} (hs : OSpec P f args [] R) (ha : freesK args True) : PSpec P f args fun s => R s [] := by
  have hargs : ∀ (l : List SV), freesK l True → argsK [] l l True := by
    intro l
    induction l with
    | nil => intro _; trivial
    | cons x l ih =>
      intro h
      have h : free1K x (freesK l True) := h
      show argK [] x x (argsK [] l l True)
      cases x <;> first | exact h.elim | exact ⟨rfl, ih h⟩ | exact ⟨rfl, puresK_mono ih h⟩
  refine ⟨fun h K hk => hs.len.call [] (by simp) (hargs args ha) trivial fun s ho hR => ?_⟩
  obtain ⟨hR, hl⟩ := hR
  have : ho = [] := List.length_eq_zero_iff.1 hl
  subst this
  exact hk s hR
theorem PSpec.of_codeF (hT : TabOK P T) {f : FuncId} {fn : Func} {c : Code} {args : List SV} {R : SV → Prop} (hf : P.funcs[f]? = some fn) (hn : (fn.name == "runtime.NumGoroutine") = false)
    (hb : fn.body = some c) (ha : freesK args True) (hk : startK args fn.ntmps fun F => codeK P T 0 c F [] (retK T fn fun s h' => outHK 0 h' s R)) : PSpec P f args R :=
  (OSpec.of_call (R := fun s _ => R s) (by simp) (CallG.of_code hT hf hn hb hk)).pure ha
end
end Go.Sx

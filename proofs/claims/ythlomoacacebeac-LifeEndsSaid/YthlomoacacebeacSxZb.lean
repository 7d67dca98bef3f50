/- A call's run, carried over to the caller's blocks. No statement of the seat is proved here. -/
import Derived.Test.YthlomoacacebeacSxZa
namespace Go.Sx
section
variable {P : Program} {T : Tab}

/-- The caller's blocks, after the call: those that were handed over, then the new ones. -/
noncomputable def landK (l : List Nat) : Hp → Hp → (Hp → Prop) → Prop :=
  List.rec (motive := fun _ => Hp → Hp → (Hp → Prop) → Prop) (fun ho h K => appK h ho K)
    (fun j _ ih ho h K => List.rec (motive := fun _ => Prop) False (fun b t _ => setK h j b fun h' => ih t h' K) ho) l
theorem landK_sound (l : List Nat) : ∀ {ho h : Hp} {K : Hp → Prop}, landK l ho h K → K (upd (l.zip ho) h ++ ho.drop l.length) := by
  induction l with
  | nil => intro ho h K hk; exact appK_sound hk
  | cons j l ih =>
    intro ho h K hk
    cases ho with
    | nil => exact hk.elim
    | cons b ho => exact ih (setK_sound (show setK h j b _ from hk)).2

def relB (m n : Nat) (ρ : List Nat) : Bool :=
  Nat.ble m ρ.length && (ρ.take m).all (fun j => Nat.blt j n) && decide (ρ.take m).Nodup && (List.range (ρ.length - m)).all fun k => ρ.getD (m + k) 0 == n + k
theorem relB_spec {m n : Nat} {ρ : List Nat} (h : relB m n ρ = true) : m ≤ ρ.length ∧ (∀ i j, i < m → ρ[i]? = some j → j < n) ∧ (∀ i i' j, i < m → i' < m → ρ[i]? = some j → ρ[i']? = some j → i = i') ∧ ∀ i j, m ≤ i → ρ[i]? = some j → j = n + (i - m) := by
  simp only [relB, Bool.and_eq_true, List.all_eq_true, decide_eq_true_eq, Nat.ble_eq, List.mem_range, beq_iff_eq] at h
  obtain ⟨⟨⟨h1, h2⟩, h3⟩, h4⟩ := h
  refine ⟨h1, fun i j hi hj => ?_, fun i i' j hi hi' hj hj' => ?_, fun i j hi hj => ?_⟩
  · have : j ∈ ρ.take m := List.mem_of_getElem? (i := i) (by rw [List.getElem?_take, if_pos hi]; exact hj)
    have := h2 j this
    simpa [Nat.blt_eq] using this
  · have e1 : (ρ.take m)[i]? = some j := by rw [List.getElem?_take, if_pos hi]; exact hj
    have e2 : (ρ.take m)[i']? = some j := by rw [List.getElem?_take, if_pos hi']; exact hj'
    exact (List.getElem?_inj (List.getElem?_eq_some_iff.1 e1).1 h3).1 (e1.trans e2.symm)
  · have hl := (List.getElem?_eq_some_iff.1 hj).1
    have := h4 (i - m) (by omega)
    rw [show m + (i - m) = i by omega] at this
    simp [List.getD, hj] at this
    exact this

/-- THE CALL, AT THE CALLER's. -/
theorem CallG.reloc {f : FuncId} {args args' : List SV} {hin h : Hp} {R K : SV → Hp → Prop} (hc : CallG P f args hin R) (ρ : List Nat) (hρ : relB hin.length h.length ρ = true)
    (ha : ins2K ρ args args' True) (hh : takeK hin.length ρ fun ρ0 => inBlksK ρ h ρ0 hin True)
    (hk : ∀ s ho, R s ho → eqNK ho.length ρ.length (mvBlksK ρ ho fun ho' => takeK hin.length ρ fun ρ0 => landK ρ0 ho' h fun H => mv3K ρ s fun s' => K s' H)) : CallG P f args' h K := by
  obtain ⟨hm, hlt, hnd, hnew⟩ := relB_spec hρ
  obtain ⟨_, hh⟩ := takeK_sound hh
  obtain ⟨_, hl0, hins⟩ := inBlksK_sound _ hh
  refine ⟨fun w X σ vs hI hr => ?_⟩
  have hσl : σ.length = h.length := hI.len
  let ρ0 := ρ.take hin.length
  let σc : Sg := ρ0.map fun j => σ.getD j .dead
  have hρ0 : ∀ (i j : Nat), ρ0[i]? = some j ↔ i < hin.length ∧ ρ[i]? = some j := by
    intro i j
    show (ρ.take hin.length)[i]? = some j ↔ _
    rw [List.getElem?_take]
    split <;> simp [*]
  have hlen0 : ρ0.length = hin.length := hl0
  have hpg : ∀ (i : Nat) (e : Ent), σc[i]? = some e → ∃ j, i < hin.length ∧ ρ[i]? = some j ∧ σ[j]? = some e := by
    intro i e he
    simp only [σc, List.getElem?_map] at he
    cases hj : ρ0[i]? with
    | none => rw [hj] at he; simp at he
    | some j =>
      rw [hj] at he
      simp at he
      obtain ⟨h1, h2⟩ := (hρ0 i j).1 hj
      have := hlt i j h1 h2
      refine ⟨j, h1, h2, ?_⟩
      rw [← he]
      simp [List.getElem?_eq_getElem (show j < σ.length by omega)]
  have hgp : ∀ (i j : Nat) (e : Ent), i < hin.length → ρ[i]? = some j → σ[j]? = some e → σc[i]? = some e := by
    intro i j e hi hj he
    simp [σc, (hρ0 i j).2 ⟨hi, hj⟩, List.getD, he]
  have hpick : Picks ρ σ σc := by
    intro i j e hj he
    by_cases hi : i < hin.length
    · exact hgp i j e hi hj he
    · have := hnew i j (by omega) hj
      have := (List.getElem?_eq_some_iff.1 he).1
      omega
  have hpo : ∀ g, Owned σc g → Owned σ g := fun g ⟨i, e, he, hg⟩ => by
    obtain ⟨j, _, _, hj⟩ := hpg i e he
    exact ⟨j, e, hj, hg⟩
  let X0 : Nat → Prop := fun g => Ex X σ g ∧ ¬ Owned σc g
  have hEx : ∀ g, Ex X0 σc g ↔ Ex X σ g := fun g => by
    constructor
    · rintro (⟨h1, _⟩ | h1)
      · exact h1
      · exact .inr (hpo g h1)
    · intro h1
      by_cases h2 : Owned σc g
      · exact .inr h2
      · exact .inl ⟨h1, h2⟩
  have hlt0 : ∀ g, Ex X σ g → g < w.heap.size := fun g hx => hx.elim (hI.xlt g) fun ⟨i, e, he, hg⟩ => hI.lt i e g he hg
  have hI0 : Inv w X0 σc hin := by
    refine ⟨by simp [σc, hlen0], fun i b e hb he => ?_, fun i e g he hg => ?_, fun i i' e e' g he he' hg hg' => ?_, fun g hx => hx.2, fun g hx => hlt0 g hx.1⟩
    · obtain ⟨j, hi, hj, he⟩ := hpg i e he
      obtain ⟨b', hb', hib⟩ := hins i j b ((hρ0 i j).2 ⟨hi, hj⟩) hb
      exact hib w (Ex X σ) (Ex X0 σc) σ σc e hpick (fun g hx => (hEx g).1 hx) (hI.ok j b' e hb' he)
    · obtain ⟨j, _, _, he⟩ := hpg i e he
      exact hI.lt j e g he hg
    · obtain ⟨j, hi, hj, he⟩ := hpg i e he
      obtain ⟨j', hi', hj', he'⟩ := hpg i' e' he'
      have := hI.inj j j' e e' g he he' hg hg'
      subst this
      exact hnd i i' j hi hi' hj hj'
  have hr0 : RepL w (Ex X0 σc) σc args vs := ins2K_repl ha hpick (fun g hx => (hEx g).1 hx) hr
  refine (hc.ok w X0 σc vs hI0 hr0).mono fun v w' ⟨s, ho, σ0, hR, hrep, hI1, hS⟩ => ?_
  obtain ⟨hol, hk⟩ := eqNK_sound (hk s ho hR)
  obtain ⟨ho', hk, hl', hmvb⟩ := mvBlksK_sound ho hk
  obtain ⟨_, hk⟩ := takeK_sound hk
  have hk := landK_sound _ hk
  obtain ⟨s', hk, hmv⟩ := mv3K_sound hk
  have hσ0l : σ0.length = ρ.length := by rw [hI1.len, hol]
  have hz1 : (ρ0.zip σ0).map (·.1) = ρ0 := by rw [List.map_fst_zip]; omega
  have hz2 : (ρ0.zip ho').map (·.1) = ρ0 := by rw [List.map_fst_zip]; omega
  have hn0 : ρ0.Nodup := by
    simp only [relB, Bool.and_eq_true, decide_eq_true_eq] at hρ
    exact hρ.1.2
  let σ1 : Sg := (ρ0.zip σ0).foldl (fun h p => h.set p.1 p.2) σ
  let σ' : Sg := σ1 ++ σ0.drop hin.length
  let H : Hp := upd (ρ0.zip ho') h ++ ho'.drop hin.length
  have hH : upd ((ρ.take hin.length).zip ho') h ++ ho'.drop (ρ.take hin.length).length = H := by
    show _ = upd ((ρ.take hin.length).zip ho') h ++ ho'.drop hin.length
    rw [show (ρ.take hin.length).length = hin.length from hlen0]
  rw [hH] at hk
  have hl1 : σ1.length = σ.length := upd_size _
  have hlH1 : (upd (ρ0.zip ho') h).length = h.length := upd_len _
  -- an entry of the result is one of the caller's that was not handed over, or the callee's
  have hwho : ∀ (i : Nat) (e : Ent), σ'[i]? = some e → (i ∉ ρ0 ∧ σ[i]? = some e) ∨ (∃ k : Nat, ρ[k]? = some i ∧ σ0[k]? = some e) := by
    intro i e he
    rw [List.getElem?_append] at he
    split at he
    · by_cases hi : i ∈ ρ0
      · obtain ⟨k, hk⟩ := List.mem_iff_getElem?.1 hi
        obtain ⟨hk1, hk2⟩ := (hρ0 k i).1 hk
        have hkl : k < σ0.length := by omega
        have hm' : (i, σ0[k]) ∈ ρ0.zip σ0 := List.mem_of_getElem? (i := k) (by rw [List.getElem?_zip_eq_some]; exact ⟨hk, List.getElem?_eq_getElem hkl⟩)
        have := upd_hit (ρ0.zip σ0) (h := σ) (by rw [hz1]; exact hn0) _ hm' (by rw [hσl]; exact hlt k i hk1 hk2)
        rw [show σ1[i]? = some σ0[k] from this] at he
        exact .inr ⟨k, hk2, by rw [List.getElem?_eq_getElem hkl]; exact he⟩
      · have : σ1[i]? = σ[i]? := upd_ext _ fun p hp he => hi (by rw [← he, ← hz1]; exact List.mem_map.2 ⟨p, hp, rfl⟩)
        rw [this] at he
        exact .inl ⟨hi, he⟩
    · rename_i hge
      rw [List.getElem?_drop] at he
      have hkl := (List.getElem?_eq_some_iff.1 he).1
      have hk' : ρ[hin.length + (i - σ1.length)]? = some ρ[hin.length + (i - σ1.length)] := List.getElem?_eq_getElem (by omega)
      have := hnew _ _ (by omega) hk'
      refine .inr ⟨_, ?_, he⟩
      rw [hk', this]
      congr 1
      omega
  have hhit : ∀ (k i : Nat) (e : Ent), ρ[k]? = some i → σ0[k]? = some e → σ'[i]? = some e := by
    intro k i e hk he
    by_cases hkm : k < hin.length
    · have hk0 := (hρ0 k i).2 ⟨hkm, hk⟩
      have hil := hlt k i hkm hk
      rw [List.getElem?_append_left (by omega)]
      have hm' : (i, e) ∈ ρ0.zip σ0 := List.mem_of_getElem? (i := k) (by rw [List.getElem?_zip_eq_some]; exact ⟨hk0, he⟩)
      exact upd_hit _ (by rw [hz1]; exact hn0) (i, e) hm' (by omega)
    · have := hnew k i (by omega) hk
      rw [List.getElem?_append_right (by omega), List.getElem?_drop]
      rw [show hin.length + (i - σ1.length) = k by omega]
      exact he
  have hhitb : ∀ (k i : Nat) (b : Blk), ρ[k]? = some i → ho'[k]? = some b → H[i]? = some b := by
    intro k i e hk he
    by_cases hkm : k < hin.length
    · have hk0 := (hρ0 k i).2 ⟨hkm, hk⟩
      have hil := hlt k i hkm hk
      rw [List.getElem?_append_left (by omega)]
      have hm' : (i, e) ∈ ρ0.zip ho' := List.mem_of_getElem? (i := k) (by rw [List.getElem?_zip_eq_some]; exact ⟨hk0, he⟩)
      exact upd_at _ (by rw [hz2]; exact hn0) (i, e) hm' (by omega)
    · have := hnew k i (by omega) hk
      rw [List.getElem?_append_right (by omega), List.getElem?_drop]
      rw [show hin.length + (i - (upd (ρ0.zip ho') h).length) = k by omega]
      exact he
  have hmissb : ∀ i, i ∉ ρ0 → i < h.length → H[i]? = h[i]? := by
    intro i hi hil
    rw [List.getElem?_append_left (by omega)]
    exact upd_get _ fun p hp he => hi (by rw [← he, ← hz2]; exact List.mem_map.2 ⟨p, hp, rfl⟩)
  have hmoves : Moves ρ σ0 σ' := fun i j e hj he => hhit i j e hj he
  have hnot0 : ∀ (i j : Nat) (e : Ent), ρ[i]? = some j → σ[j]? = some e → i < hin.length := by
    intro i j e hj he
    have := (List.getElem?_eq_some_iff.1 he).1
    cases Nat.lt_or_ge i hin.length with
    | inl h => exact h
    | inr h => have := hnew i j h hj; omega
  have hσlt : ∀ (i : Nat) (e : Ent) (g : Nat), i ∉ ρ0 → σ[i]? = some e → e.blk = some g → X0 g := by
    intro i e g hi he hg
    refine ⟨.inr ⟨i, e, he, hg⟩, fun ⟨k, e', he', hg'⟩ => ?_⟩
    obtain ⟨j, hkm, hj, he'⟩ := hpg k e' he'
    have := hI.inj i j e e' g he he' hg hg'
    subst this
    exact hi (List.mem_of_getElem? ((hρ0 k i).2 ⟨hkm, hj⟩))
  have hE' : ∀ g, Ex X σ' g → Ex X0 σ0 g := by
    rintro g (hx | ⟨i, e, he, hg⟩)
    · exact .inl ⟨.inl hx, fun ho => hI.dis g hx (hpo g ho)⟩
    · rcases hwho i e he with ⟨hi, he⟩ | ⟨k, hk, he⟩
      · exact .inl (hσlt i e g hi he hg)
      · exact .inr ⟨k, e, he, hg⟩
  have hσcl : σc.length = hin.length := by simp [σc, hlen0]
  have hS' : Step σ.length w σ w' σ' := by
    refine ⟨hS.os, hS.tape, hS.output, hS.size, fun g hg ho => hS.frame g hg fun h => ho (hpo g h), fun g ⟨i, e, he, hg⟩ hlt' => ?_, fun i e hi he hf => ?_⟩
    · rcases hwho i e he with ⟨_, he⟩ | ⟨k, hk, he⟩
      · exact ⟨i, e, he, hg⟩
      · exact hpo g (hS.blks g ⟨k, e, he, hg⟩ hlt')
    · by_cases hi' : i ∈ ρ0
      · obtain ⟨k, hk⟩ := List.mem_iff_getElem?.1 hi'
        obtain ⟨hk1, hk2⟩ := (hρ0 k i).1 hk
        exact (hS.ents k e (by omega) (hgp k i e hk1 hk2 he) hf).imp (hhit k i _ hk2) (hhit k i _ hk2)
      · left
        rw [List.getElem?_append_left (by omega)]
        rw [show σ1[i]? = σ[i]? from upd_ext _ fun p hp he => hi' (by rw [← he, ← hz1]; exact List.mem_map.2 ⟨p, hp, rfl⟩)]
        exact he
  have hlen : σ'.length = H.length := by
    show (σ1 ++ σ0.drop hin.length).length = (upd (ρ0.zip ho') h ++ ho'.drop hin.length).length
    simp only [List.length_append, List.length_drop]
    omega
  refine ⟨s', H, σ', hk, hmv w' _ _ σ0 σ' v hmoves hE' hrep, ⟨hlen, fun i b e hb he => ?_, fun i e g he hg => ?_, fun i j e e' g hi hj hg hg' => ?_, fun g hx hown => ?_, fun g hx => Nat.lt_of_lt_of_le (hI.xlt g hx) hS.size⟩, hS'⟩
  · rcases hwho i e he with ⟨hi, he⟩ | ⟨k, hk, he⟩
    · have hil := (List.getElem?_eq_some_iff.1 he).1
      rw [hmissb i hi (by omega)] at hb
      exact (hI.ok i b e hb he).step hS' (Nat.le_refl _) fun g hg => hS.frame g (hI.lt i e g he hg) fun hown => (hσlt i e g hi he hg).2 hown
    · have hkl : k < σ0.length := (List.getElem?_eq_some_iff.1 he).1
      have hkl' : k < ho.length := by omega
      rw [hhitb k i _ hk (List.getElem?_eq_getElem (show k < ho'.length by omega))] at hb
      simp at hb
      subst hb
      exact hmvb k _ _ (List.getElem?_eq_getElem hkl') (List.getElem?_eq_getElem (show k < ho'.length by omega)) w' _ _ σ0 σ' e hmoves hE' (hI1.ok k _ e (List.getElem?_eq_getElem hkl') he)
  · rcases hwho i e he with ⟨_, he⟩ | ⟨k, hk, he⟩
    · exact Nat.lt_of_lt_of_le (hI.lt i e g he hg) hS.size
    · exact hI1.lt k e g he hg
  · rcases hwho i e hi with ⟨hir, hie⟩ | ⟨k, hk, hke⟩
    · rcases hwho j e' hj with ⟨hjr, hje⟩ | ⟨l, hl, hle⟩
      · exact hI.inj i j e e' g hie hje hg hg'
      · exact absurd ⟨l, e', hle, hg'⟩ (hI1.dis g (hσlt i e g hir hie hg))
    · rcases hwho j e' hj with ⟨hjr, hje⟩ | ⟨l, hl, hle⟩
      · exact absurd ⟨k, e, hke, hg⟩ (hI1.dis g (hσlt j e' g hjr hje hg'))
      · have := hI1.inj k l e e' g hke hle hg hg'
        subst this
        rw [hk] at hl
        exact Option.some.inj hl
  · obtain ⟨i, e, he, hg⟩ := hown
    rcases hwho i e he with ⟨_, he⟩ | ⟨k, hk, he⟩
    · exact hI.dis g hx ⟨i, e, he, hg⟩
    · exact hI1.dis g ⟨.inl hx, fun ho => hI.dis g hx (hpo g ho)⟩ ⟨k, e, he, hg⟩

/-- A function that is handed blocks, and may make some: 'hin' and what it leaves are the callee's own count. -/
structure GSpec (P : Program) (f : FuncId) (args : List SV) (hin : Hp) (R : SV → Hp → Prop) : Prop where
  ok : CallG P f args hin R
theorem GSpec.call {f : FuncId} {args args' : List SV} {hin h : Hp} {R K : SV → Hp → Prop} (hs : GSpec P f args hin R) (ρ : List Nat) (hρ : relB hin.length h.length ρ = true)
    (ha : ins2K ρ args args' True) (hh : takeK hin.length ρ fun ρ0 => inBlksK ρ h ρ0 hin True)
    (hk : ∀ s ho, R s ho → eqNK ho.length ρ.length (mvBlksK ρ ho fun ho' => takeK hin.length ρ fun ρ0 => landK ρ0 ho' h fun H => mv3K ρ s fun s' => K s' H)) : CallG P f args' h K := hs.ok.reloc ρ hρ ha hh hk
/-- What a function leaves: its blocks in the order of 'l', the others given up. -/
noncomputable def pickK (l : List Nat) (h : Hp) : (Hp → Prop) → Prop :=
  List.rec (motive := fun _ => (Hp → Prop) → Prop) (fun k => k []) (fun j _ ih k => nthK h j fun b => ih fun r => k (b :: r)) l
end
end Go.Sx

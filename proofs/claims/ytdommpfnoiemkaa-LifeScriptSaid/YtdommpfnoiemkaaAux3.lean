/- A call at rows that are given away. No statement of the seat is proved here. -/
import Derived.Test.YtdommpfnoiemkaaAux2
namespace Go.Sx
set_option linter.unusedVariables false
/-- The row of block b is nobody's any more: what named it names its elements. -/
noncomputable def givK (b : Nat) (F : Fr) (h : Hp) (K : Fr → Hp → Prop) : Prop :=
  nthK h b fun blk => match blk with
    | .row _ z es => setK h b .dead fun h' => mapSlK b (.rs z es) F fun F' => K F' h'
    | _ => False
theorem giv_sound {b : Nat} {F : Fr} {h : Hp} {K : Fr → Hp → Prop} (hk : givK b F h K) : ∃ F' h', h'.length = h.length ∧ (∀ m, Shift m F h F' h') ∧ K F' h' := by
  obtain ⟨blk, hb, hk⟩ := nthK_sound hk
  cases blk with
  | row t z es =>
    obtain ⟨hlt, hk⟩ := setK_sound (show setK h b .dead _ from hk)
    obtain ⟨F', hk, hl, hF'⟩ := mapSlK_sound F hk
    refine ⟨F', _, by simp, fun m => ⟨fun w X σ tmps hI hF => ?_⟩, hk⟩
    obtain ⟨hI', hS, hown⟩ := hI.kill m b
    have hσb : σ[b]? = some (σ[b]'(by rw [hI.len]; exact hlt)) := List.getElem?_eq_getElem _
    have hE : ∀ g, Ex X (σ.set b .dead) g → Ex X σ g := fun g hx => hx.elim .inl fun ho => by
      obtain ⟨i, e, _, he, hg⟩ := hown g ho
      exact .inr ⟨i, e, he, hg⟩
    refine ⟨_, hI', ⟨by rw [hl]; exact hF.1, fun i s v hs hv => ?_⟩, hS⟩
    have hi : i < F.length := by rw [← hl]; exact (List.getElem?_eq_some_iff.1 hs).1
    have hr := hF.2 i _ v (List.getElem?_eq_getElem hi) hv
    rcases hF' i _ s (List.getElem?_eq_getElem hi) hs with ⟨e1, e2⟩ | e1
    · subst e2
      rw [e1] at hr
      refine rs_of_row hσb (hI.ok b _ _ hb hσb) hE (fun g hg hx => ?_) (fun g hg => hI.lt b _ g hσb hg) hr
      rcases hx with hx | ho
      · exact hI.dis g hx ⟨b, _, hσb, hg⟩
      · obtain ⟨j, e, hne, he, hg'⟩ := hown g ho
        exact hne (hI.inj j b e _ g he hσb hg' hg)
    · rw [← e1]
      exact hr.mono _ (fun _ _ _ => rfl) (Nat.le_refl _) (fun g _ hn h => hn (hE g h)) (fun j e he hf => by
        rw [List.getElem?_set]
        by_cases hjb : b = j
        · rw [if_pos hjb, if_pos (by rw [hjb]; exact (List.getElem?_eq_some_iff.1 he).1)]; exact .inr rfl
        · rw [if_neg hjb]; exact .inl he)
  | _ => exact hk.elim
theorem DoneS.mono' {P : Program} {m : Sem Next} {w : World} {R R' : Value → World → Prop} (h : DoneS P m w R) (hr : ∀ v w', R v w' → R' v w') : DoneS P m w R' := DoneS.mono h hr
/-- A call before which the row of block b is given away. -/
theorem CallG.give {P : Program} {f : FuncId} {args : List SV} {h : Hp} {K : SV → Hp → Prop} (b : Nat) (hk : givK b args h fun args' h' => CallG P f args' h' K) : CallG P f args h K := by
  obtain ⟨F', h', hlen, hs, hk⟩ := giv_sound hk
  refine ⟨fun w X σ vs hI hr => ?_⟩
  obtain ⟨σ', hI', hF', hS⟩ := (hs σ.length).ok w X σ vs.toArray hI ⟨by simpa using hr.1, fun i s v h1 h2 => hr.2 i s v h1 (by simpa using h2)⟩
  refine (hk.ok w X σ' vs hI' ⟨by simpa using hF'.1, fun i s v h1 h2 => hF'.2 i s v h1 (by simpa using h2)⟩).mono fun v w' ⟨s, h'', σ'', hK, hrep, hI'', hS'⟩ => ?_
  have hl : σ'.length = σ.length := by rw [hI'.len, hI.len, hlen]
  exact ⟨s, h'', σ'', hK, hrep, hI'', hS.trans (hl ▸ hS')⟩
end Go.Sx

/- A row that nobody writes any more, also where structs name it; functions that are handed blocks, with a shift between two statements. No statement of the seat is proved here. -/
import Derived.Test.YtdommpfnoiemkaaCut
namespace Go.Sx
set_option linter.unusedVariables false
section
variable {P : Program} {T : Tab}
noncomputable def mapHK (b : Nat) (s : SV) (h : Hp) : (Hp → Prop) → Prop :=
  List.rec (motive := fun _ => (Hp → Prop) → Prop) (fun k => k []) (fun x _ ih k => match x with
    | .fix T cs => mapSlK b s cs fun cs' => ih fun r => k (.fix T cs' :: r)
    | x => ih fun r => k (x :: r)) h
theorem mapHK_sound {b : Nat} {s : SV} (h : Hp) : ∀ {k : Hp → Prop}, mapHK b s h k → ∃ h', k h' ∧ h'.length = h.length ∧ ∀ (i : Nat) (x y : Blk), h[i]? = some x → h'[i]? = some y →
    x = y ∨ ∃ T cs cs', x = .fix T cs ∧ y = .fix T cs' ∧ cs'.length = cs.length ∧ ∀ (j : Nat) (c d : SV), cs[j]? = some c → cs'[j]? = some d → (c = .sl b ∧ d = s) ∨ c = d := by
  induction h with
  | nil => intro k h; exact ⟨[], h, rfl, by simp⟩
  | cons x t ih =>
    intro k hk
    have key : ∃ y, mapHK b s t (fun r => k (y :: r)) ∧ (x = y ∨ ∃ T cs cs', x = .fix T cs ∧ y = .fix T cs' ∧ cs'.length = cs.length ∧ ∀ (j : Nat) (c d : SV), cs[j]? = some c → cs'[j]? = some d → (c = .sl b ∧ d = s) ∨ c = d) := by
      cases x with
      | fix T cs =>
        obtain ⟨cs', hk, hl, hc⟩ := mapSlK_sound cs (show mapSlK b s cs (fun cs' => mapHK b s t fun r => k (.fix T cs' :: r)) from hk)
        exact ⟨_, hk, .inr ⟨T, cs, cs', rfl, rfl, hl, hc⟩⟩
      | fresh => exact ⟨_, hk, .inl rfl⟩
      | dead => exact ⟨_, hk, .inl rfl⟩
      | row T z es => exact ⟨_, hk, .inl rfl⟩
    obtain ⟨y, hk, hy⟩ := key
    obtain ⟨h', hk, hl, hr⟩ := ih hk
    refine ⟨_, hk, by simp [hl], fun i a c ha hc => ?_⟩
    cases i with
    | zero => simp at ha hc; subst ha; subst hc; exact hy
    | succ i => exact hr i a c (by simpa using ha) (by simpa using hc)
noncomputable def frzHK (m b : Nat) (F : Fr) (h : Hp) (K : Fr → Hp → Prop) : Prop :=
  leNK m b (nthK h b fun blk => match blk with
    | .row _ z es => setK h b .dead fun h' => mapHK b (.rs z es) h' fun h'' => mapSlK b (.rs z es) F fun F' => K F' h''
    | _ => False)
theorem frzH_sound {m b : Nat} {F : Fr} {h : Hp} {K : Fr → Hp → Prop} (hk : frzHK m b F h K) : ∃ F' h', Shift m F h F' h' ∧ K F' h' := by
  obtain ⟨_, hk⟩ := leNK_sound hk
  obtain ⟨blk, hb, hk⟩ := nthK_sound hk
  cases blk with
  | row t z es =>
    obtain ⟨hlt, hk⟩ := setK_sound (show setK h b .dead _ from hk)
    obtain ⟨h2, hk, hl2, hH⟩ := mapHK_sound _ hk
    obtain ⟨F', hk, hl, hF'⟩ := mapSlK_sound F hk
    refine ⟨F', h2, ⟨fun w X σ tmps hI hF => ?_⟩, hk⟩
    obtain ⟨hI', hS, hown⟩ := hI.kill m b
    have hσb : σ[b]? = some (σ[b]'(by rw [hI.len]; exact hlt)) := List.getElem?_eq_getElem _
    have hE : ∀ g, Ex X (σ.set b .dead) g → Ex X σ g := fun g hx => hx.elim .inl fun ho => by
      obtain ⟨i, e, _, he, hg⟩ := hown g ho
      exact .inr ⟨i, e, he, hg⟩
    have conv : ∀ (s : SV) (v : Value), Rep w (Ex X σ) σ s v → ∀ s', ((s = .sl b ∧ s' = .rs z es) ∨ s = s') → Rep w (Ex X (σ.set b .dead)) (σ.set b .dead) s' v := by
      intro s v hr s' hs
      rcases hs with ⟨e1, e2⟩ | e1
      · subst e2
        rw [e1] at hr
        refine rs_of_row hσb (hI.ok b _ _ hb hσb) hE (fun g hg hx => ?_) (fun g hg => hI.lt b _ g hσb hg) hr
        rcases hx with hx | ho
        · exact hI.dis g hx ⟨b, _, hσb, hg⟩
        · obtain ⟨j, e, hne, he, hg'⟩ := hown g ho
          exact hne (hI.inj j b e _ g he hσb hg' hg)
      · rw [← e1]
        exact hr.mono _ (fun _ _ _ => rfl) (Nat.le_refl _) (fun g _ hn h => hn (hE g h)) (fun j e he hf => by
          rw [List.getElem?_set]
          by_cases hjb : b = j
          · rw [if_pos hjb, if_pos (by rw [hjb]; exact (List.getElem?_eq_some_iff.1 he).1)]; exact .inr rfl
          · rw [if_neg hjb]; exact .inl he)
    refine ⟨_, ⟨by rw [hI'.len, hl2], fun i bl e hbl he => ?_, hI'.lt, hI'.inj, hI'.dis, hI'.xlt⟩, ⟨by rw [hl]; exact hF.1, fun i s v hs hv => ?_⟩, hS⟩
    · have hi : i < (h.set b Blk.dead).length := by rw [← hl2]; exact (List.getElem?_eq_some_iff.1 hbl).1
      have hold : (h.set b Blk.dead)[i]? = some ((h.set b Blk.dead)[i]) := List.getElem?_eq_getElem hi
      have hok := hI'.ok i _ e hold he
      rcases hH i _ bl hold hbl with e1 | ⟨T', cs, cs', e1, e2, hlen, hcs⟩
      · rw [← e1]; exact hok
      · subst e2
        have hne : i ≠ b := by
          intro q
          subst q
          rw [List.getElem?_set] at hold
          simp at e1
        rw [List.getElem?_set, if_neg (Ne.symm hne)] at he
        have hold2 : h[i]? = some (.fix T' cs) := by
          rw [List.getElem?_set, if_neg (Ne.symm hne), e1] at hold
          exact hold
        have h1 := hI.ok i _ e hold2 he
        cases e <;> simp only [BlkOK] at h1 ⊢
        obtain ⟨vs, a1, a2, a3⟩ := h1
        refine ⟨vs, a1, by rw [hlen]; exact a2, fun j s v hs hv => ?_⟩
        have hj : j < cs.length := by rw [← hlen]; exact (List.getElem?_eq_some_iff.1 hs).1
        obtain ⟨r1, r2⟩ := a3 j _ v (List.getElem?_eq_getElem hj) hv
        exact ⟨conv _ v r1 s (hcs j _ s (List.getElem?_eq_getElem hj) hs), r2⟩
    · have hi : i < F.length := by rw [← hl]; exact (List.getElem?_eq_some_iff.1 hs).1
      exact conv _ v (hF.2 i _ v (List.getElem?_eq_getElem hi) hv) s (hF' i _ s (List.getElem?_eq_getElem hi) hs)
  | _ => exact hk.elim
theorem XG.freezeH {m : Nat} {F : Fr} {h : Hp} {K : Fr → Hp → Prop} (b : Nat) (hk : frzHK m b F h fun F' h' => XG m F' h' K) : XG m F h K := by
  obtain ⟨F', h', hs, hk⟩ := frzH_sound hk
  exact hk.step hs
theorem OSpec.of_cut (hT : TabOK P T) (n : Nat) {f : FuncId} {fn : Func} {c : Code} {args : List SV} {hin : Hp} {R : SV → Hp → Prop} (hf : P.funcs[f]? = some fn) (hn : (fn.name == "runtime.NumGoroutine") = false)
    (hb : fn.body = some c) (hfin : freeBlksK hin True)
    (hk : startK args fn.ntmps fun F => cutK P T hin.length n c F hin (retK T fn fun s h' => outHK hin.length h' s fun s' => takeK hin.length h' fun ho => freeBlksK ho (R s' ho))) : OSpec P f args hin R :=
  .of_call (freeBlksK_sound hfin).2 (CallG.of_cut hT n hf hn hb hk)
end
end Go.Sx

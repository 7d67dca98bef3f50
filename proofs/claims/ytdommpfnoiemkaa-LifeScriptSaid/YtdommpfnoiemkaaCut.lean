/- A shift between two of a function's statements. No statement of the seat is proved here. -/
import Derived.Test.YtdommpfnoiemkaaAux3
namespace Go.Sx
set_option linter.unusedVariables false
section
variable {P : Program} {T : Tab}
/-- The first n statements, then a shift, then the others. -/
noncomputable def cutK (P : Program) (T : Tab) (m : Nat) : Nat → Code → Fr → Hp → Post → Prop
  | 0, c, F, h, K => XG m F h fun F h => codeK P T m c F h K
  | n + 1, .seq a r, F, h, K => codeK P T m a F h fun x F h => match x with
    | .normal => cutK P T m n r F h K
    | .exit i => K (.exit i) F h
    | .ret => K .ret F h
  | _ + 1, c, F, h, K => codeK P T m c F h K
theorem cutK_sound (hT : TabOK P T) {m : Nat} : ∀ (n : Nat) (c : Code) {F : Fr} {h : Hp} {K : Post}, cutK P T m n c F h K → SOK P m c F h K := by
  intro n
  induction n with
  | zero =>
    intro c F h K hk
    obtain ⟨F', h', hs, hk⟩ := XG.ok (by simpa only [cutK] using hk)
    exact .shift hs (codeK_sound hT c hk)
  | succ n ih =>
    intro c F h K hk
    cases c with
    | seq a r =>
      refine SOK.seq ((codeK_sound hT a (by simpa only [cutK] using hk)).mono fun x F h hk => ?_)
      cases x with
      | normal => exact ih r hk
      | exit i => exact hk
      | ret => exact hk
    | _ => exact codeK_sound hT _ (by simpa only [cutK] using hk)
theorem CallG.of_cut (hT : TabOK P T) (n : Nat) {f : FuncId} {fn : Func} {c : Code} {args : List SV} {h : Hp} {R : SV → Hp → Prop} (hf : P.funcs[f]? = some fn) (hn : (fn.name == "runtime.NumGoroutine") = false)
    (hb : fn.body = some c) (hk : startK args fn.ntmps fun F => cutK P T h.length n c F h (retK T fn R)) : CallG P f args h R := by
  obtain ⟨F, hk, hs⟩ := startK_sound hk
  refine ⟨fun w X σ vs hI hr => ?_⟩
  have hcall : (callFunc f vs.toArray).run P w = .ok (.enter f vs.toArray) w := by
    have h1 : fn.name ≠ "runtime.NumGoroutine" := by simpa using hn
    simp [callFunc, hf, h1, hb]
  unfold DoneS
  rw [hcall]
  refine calls_of_wp hf hb (wp_mono (cutK_sound hT n c hk w X σ _ hI (hs w _ σ vs hr)) fun e a w' hq => ?_)
  obtain ⟨hd, x, F', h', σ', hx, hk, hI', hF', hS⟩ := hq
  have hm : h.length = σ.length := hI.len.symm
  rw [hm] at hS
  have fin : resK h' F' T fn.results.toList (fun l => tupK l fun s => R s h') → a.defers = [] ∧ ∃ v, (results fn a.tmps).run P w' = .ok v w' ∧ ∃ v', Ending.returned v = .returned v' ∧ ∃ s h' σ', R s h' ∧ Rep w' (Ex X σ') σ' s v' ∧ Inv w' X σ' h' ∧ Step σ.length w σ w' σ' := by
    intro hk
    obtain ⟨ss, hk, hrs⟩ := resK_sound hT _ hk
    obtain ⟨s, hk, hst⟩ := tupK_sound hk
    obtain ⟨vs', hrun, hrl⟩ := hrs w' X σ' a.tmps hI' hF'
    have hres : (results fn a.tmps).run P w' = .ok (if h : vs'.toArray.size = 1 then vs'.toArray[0] else .tuple vs'.toArray) w' := by
      unfold results
      rw [Array.mapM_eq_mapM_toList]
      simp only [Sem.run_bind, Sem.run_map, Sem.run_pure]
      erw [hrun]
      rfl
    exact ⟨hd, _, hres, _, rfl, s, h', σ', hk, hst w' _ σ' vs'.toArray (by simpa using hrl), hI', hS⟩
  cases e <;> cases hx
  case normal => exact fin hk
  case ret => exact fin hk
  case exit id => exact hk.elim
theorem PSpec.of_cut (hT : TabOK P T) (n : Nat) {f : FuncId} {fn : Func} {c : Code} {args : List SV} {R : SV → Prop} (hf : P.funcs[f]? = some fn) (hn : (fn.name == "runtime.NumGoroutine") = false)
    (hb : fn.body = some c) (ha : freesK args True) (hk : startK args fn.ntmps fun F => cutK P T 0 n c F [] (retK T fn fun s _ => outK s R)) : PSpec P f args R :=
  .of_out ha (CallG.of_cut hT n hf hn hb hk)
end
end Go.Sx

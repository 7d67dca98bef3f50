/- Chapter 7: which strings are names, by the program. -/
import Derived.Test.YtdommpfnoiemkaaNameL
import Derived.LoopTactic
namespace Go.Proofs.Ytdommpfnoiemkaa
open Go.Sx
set_option linter.unusedSimpArgs false
set_option linter.unusedVariables false
set_option maxRecDepth 100000 in
theorem letter_c (r : Int) (w : World) : Calls Try.prog 116 #[.int .i32 r] w fun e w' => e = .returned (.bool (letR r)) ∧ w' = w := by
  go_enter Try.func116, Try.ntmps116
  go_wp2
  all_goals go_ret
  all_goals refine ⟨congrArg (fun b => Ending.returned (.bool b)) ?_, rfl⟩
  all_goals symm
  all_goals try simp only [beq_eq_false_iff_ne, beq_iff_eq, ne_eq] at *
  all_goals first
    | (refine decide_eq_true ?_; unfold LetP; omega)
    | (refine decide_eq_false ?_; unfold LetP; omega)
    | (by_cases hx : r = 65533
       · subst hx; decide
       · have e : letR r = true := decide_eq_true (by unfold LetP; omega)
         rw [e]; simp [hx])
set_option maxRecDepth 1000000 in
theorem lvalid_c (s : List UInt8) (w : World) :
    Calls Try.prog 101 #[.string (bA s)] w fun e w' => e = .returned (.bool (nameOk s)) ∧ ∃ pos, w' = w.iter (bA s) pos := by
  have hsz := bA_size s
  go_enter Try.func101, Try.ntmps101
  go_wp2
  go_loopw [2] (fun n w' => ∃ pos : Nat, w' = w.iter (bA s) pos ∧ n = .bool false ∧ nmF (bA s) pos = nmF (bA s) 0) (fun _ w' => (bA s).size - w'.iterPos w.heap.size)
  case atStart => exact ⟨0, rfl, rfl, rfl⟩
  case round =>
    obtain ⟨pos, rfl, rfl, hc⟩ := hrel
    by_cases hp : pos < (bA s).size
    · have hnx : ∀ ty, (Instr.next (.pointer (some ⟨w.heap.size, 0, none⟩)) true ty).run Try.prog (w.iter (bA s) pos) = _ := fun ty => run_next_any w (bA s) pos ty hp
      have hwd := width1 (bA s) pos hp
      have hst := nmF_step hp
      go_wp2_with (go_at_call 116; refine (letter_c _ _).mono ?_; rintro e w' ⟨rfl, rfl⟩)
      · rename_i hb
        have hn : nameOk s = false := by
          unfold nameOk; rw [← hc, hst, (by simpa using hb : letR ((Utf8.decode (bA s) pos).1 : Int) = false)]; rfl
        go_ret
        exact ⟨by rw [hn]; rfl, _, rfl⟩
      · rename_i hb
        refine ⟨⟨_, rfl, rfl, ?_⟩, ?_⟩
        · rw [← hc, hst, (by simpa using hb : letR ((Utf8.decode (bA s) pos).1 : Int) = true), Bool.true_and]
        · simp only [World.iterPos_iter]; omega
    · have hnx : ∀ ty, (Instr.next (.pointer (some ⟨w.heap.size, 0, none⟩)) true ty).run Try.prog (w.iter (bA s) pos) = _ := fun ty => run_next_end w (bA s) pos ty hp
      have he := nmF_end (Nat.le_of_not_lt hp)
      go_wp2
      all_goals
        rename_i hb
        go_ret
        refine ⟨congrArg (fun b => Ending.returned (.bool b)) ?_, _, rfl⟩
        unfold nameOk; rw [← hc, he, Bool.true_and]
        first
          | (refine decide_eq_decide.2 ?_; omega)
          | (symm; refine decide_eq_false ?_; omega)
theorem PSpec.of_iter {P : Program} {f : FuncId} {fn : Func} {c : Code} (hf : P.funcs[f]? = some fn) (hn : (fn.name == "runtime.NumGoroutine") = false) (hb : fn.body = some c) {s : List UInt8} {b : Bool}
    (hc : ∀ w : World, Calls P f #[.string (bA s)] w fun e w' => e = .returned (.bool b) ∧ ∃ pos, w' = w.iter (bA s) pos) : PSpec P f [.str s] (· = .bool b) := by
  refine ⟨fun h K hk => ⟨fun w X σ vs hI hr => ?_⟩⟩
  obtain ⟨hl, hr⟩ := hr
  obtain ⟨v, rfl⟩ : ∃ v, vs = [v] := by
    cases vs with
    | nil => simp at hl
    | cons v vs => cases vs with
      | nil => exact ⟨v, rfl⟩
      | cons _ _ => simp at hl
  have hv := hr 0 _ v rfl rfl
  cases hv
  have hcall : (callFunc f [Value.string (bA s)].toArray).run P w = .ok (.enter f #[.string (bA s)]) w := by
    have h2 : fn.name ≠ "runtime.NumGoroutine" := by simpa using hn
    simp [callFunc, hf, h2, hb]
  show DoneS P (callFunc f [Value.string (bA s)].toArray) w _
  unfold DoneS
  rw [hcall]
  refine (hc w).mono fun e w' ⟨he, pos, hw⟩ => ?_
  subst he; subst hw
  have hS : Step 0 w [] (w.iter (bA s) pos) [] := ⟨rfl, rfl, rfl, by show w.heap.size ≤ (w.heap.push _).size; rw [Array.size_push]; omega, fun g hg _ => by
    show (w.heap.push _)[g]? = _
    rw [Array.getElem?_push, if_neg (by omega)], fun g ho _ => absurd ho (not_owned_nil g), fun _ _ h => by omega⟩
  obtain ⟨hI2, hS2⟩ := hI.same hS
  exact ⟨_, rfl, _, h, σ, hk _ rfl, .bool, hI2, hS2⟩
theorem lvalid_s (s : List UInt8) : PSpec Try.prog 101 [.str s] (· = .bool (nameOk s)) :=
  PSpec.of_iter Try.func101 (by rfl) rfl (lvalid_c s)
end Go.Proofs.Ytdommpfnoiemkaa

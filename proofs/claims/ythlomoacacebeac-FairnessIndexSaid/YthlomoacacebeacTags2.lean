/- Contracts of package tags: the least tag, rebased tags. No statement of the seat is proved here. -/
import Derived.Test.YthlomoacacebeacTags
import Derived.Test.YthlomoacacebeacAux2
namespace Go.Proofs.Ythlomoacacebeac
open Go.Sx
set_option linter.unusedSimpArgs false
set_option linter.unusedVariables false
def startOf (ts : List Tg) (i : Nat) : Int := match ts[i]? with | some t => t.s | none => 0
def lst (ts : List Tg) : Nat → Nat
  | 0 => 0
  | i + 1 => if startOf ts i < startOf ts (lst ts i) then i else lst ts i
theorem lst_le (ts : List Tg) : ∀ i, lst ts i ≤ i - 1
  | 0 => Nat.le_refl _
  | i + 1 => by
    have := lst_le ts i
    simp only [lst]
    split <;> omega
def leastI (ts : List Tg) : Int := if ts = [] ∨ tagsOk (-1) ts = false then -1 else (lst ts ts.length : Int)
theorem start_at {ts : List Tg} {i : Nat} {x : Tg} (h : ts[(i : Int).toNat]? = some x) : startOf ts i = x.s := by
  rw [Int.toNat_natCast] at h
  simp [startOf, h]
theorem least_s (ts : List Tg) (hl : ts.length ≤ 4611686018427387903) : PSpec Try.prog 21 [.rs 3 (ts.map tagE)] (· = .int .i64 (leastI ts)) := by
  refine .of_code' tab_ok Try.func21 (by rfl) rfl trivial ?_
  by_cases h0 : ts = []
  · subst h0
    conv => whnf
    refine both_t rfl ?_
    conv => whnf
    rfl
  · have hp : 0 < ts.length := List.length_pos_iff.2 h0
    have hz : decide (((ts.map tagE).length : Int) = 0) = false := by simp [h0]
    conv => whnf
    refine both_f hz ?_
    conv => whnf
    refine (valid_s ts hl).call ?_
    rintro _ rfl
    conv => whnf
    refine ⟨fun hv => ?_, fun hv => ?_⟩
    · have hv : tagsOk (-1) ts = false := by simpa using hv
      conv => whnf
      simp [leastI, hv]
    · have hv : tagsOk (-1) ts = true := by simpa using hv
      conv => whnf
      refine LoopG.inv tab_ok 32 (fun i : { i : Nat // i ≤ ts.length } => [(0, .rs 3 (ts.map tagE)), (3, .int .i64 (lst ts i.1 : Int)), (14, .rs 3 (ts.map tagE)), (15, .int .i64 ((ts.map tagE).length : Int)), (16, .int .i64 (i.1 : Int))])
        (fun _ => []) (fun i => ts.length - i.1) ⟨0, by omega⟩ (.of [] (by decide) ?_) ?_
      · conv => whnf
        refine ⟨by rfl, ?_⟩
        conv => whnf
        refine ⟨by rfl, ?_⟩
        conv => whnf
        refine ⟨by rfl, ?_⟩
        conv => whnf
        refine ⟨by rfl, ?_⟩
        conv => whnf
        refine ⟨by rfl, ?_⟩
        conv => whnf
        exact trivial
      · intro i
        have hi := i.2
        have hb2 := lst_le ts i.1
        conv => whnf
        refine ⟨fun hb => ?_, fun hb => ?_⟩
        · have hb : i.1 < ts.length := by simpa using hb
          conv => whnf
          refine ⟨by simp; omega, ?_⟩
          conv => whnf
          refine el_map (by omega) fun x0 hx0 => ?_
          conv => whnf
          refine DrawG.of mixed tab_ok ?_
          conv => whnf
          refine ⟨by simp; omega, ?_⟩
          conv => whnf
          refine el_map (by omega) fun x1 hx1 => ?_
          conv => whnf
          refine ⟨by kernel_rfl, ?_⟩
          conv => whnf
          refine ⟨fun hh2 => ?_, fun hh2 => ?_⟩
          · simp only [decide_eq_true_eq, decide_eq_false_iff_not] at hh2
            conv => whnf
            refine ⟨⟨i.1 + 1, by omega⟩, by show ts.length - (i.1 + 1) < ts.length - i.1; omega, .of [] (by decide) ?_⟩
            conv => whnf
            refine ⟨by rfl, ?_⟩
            conv => whnf
            refine ⟨by (rw [lst, start_at hx0, start_at hx1, if_pos (by assumption)]), ?_⟩
            conv => whnf
            refine ⟨by rfl, ?_⟩
            conv => whnf
            refine ⟨by rfl, ?_⟩
            conv => whnf
            refine ⟨by exact (w64 _ (by omega) (by omega)).trans (by simp), ?_⟩
            conv => whnf
            exact trivial
          · simp only [decide_eq_true_eq, decide_eq_false_iff_not] at hh2
            conv => whnf
            refine ⟨⟨i.1 + 1, by omega⟩, by show ts.length - (i.1 + 1) < ts.length - i.1; omega, .of [] (by decide) ?_⟩
            conv => whnf
            refine ⟨by rfl, ?_⟩
            conv => whnf
            refine ⟨by (rw [lst, start_at hx0, start_at hx1, if_neg (by assumption)]), ?_⟩
            conv => whnf
            refine ⟨by rfl, ?_⟩
            conv => whnf
            refine ⟨by rfl, ?_⟩
            conv => whnf
            refine ⟨by exact (w64 _ (by omega) (by omega)).trans (by simp), ?_⟩
            conv => whnf
            exact trivial
        · have hb : ¬ i.1 < ts.length := by simpa using hb
          have hi : i.1 = ts.length := by omega
          conv => whnf
          refine .same ?_
          conv => whnf
          (rw [leastI, if_neg (by simp [h0, hv]), hi])
end Go.Proofs.Ythlomoacacebeac

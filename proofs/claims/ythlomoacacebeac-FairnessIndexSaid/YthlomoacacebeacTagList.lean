/- What the statements' lists of tags are. No statement of the seat is proved here. -/
import Derived.Test.YthlomoacacebeacRebase
import Derived.Test.YthlomoacacebeacGenW
namespace Go.Proofs.Ythlomoacacebeac
open Go.Sx
set_option linter.unusedSimpArgs false
set_option linter.unusedVariables false
theorem tgg_get {ts : List Tg} {i : Nat} (h : i < ts.length) : (ts.map tagE)[i]? = some [.int .i64 (getT ts i).f, .int .i64 (getT ts i).w, .int .i64 (getT ts i).s] := by
  rw [List.getElem?_map, getT_get h]; rfl
theorem tgs_set {ts : List Tg} {i : Nat} (f w s : Int) : (ts.map tagE).set i [.int .i64 f, .int .i64 w, .int .i64 s] = (ts.set i ⟨f, w, s⟩).map tagE := by
  rw [List.map_set]; rfl
theorem list_s (ls : List Int) (at' : Int) (h0 : 0 ≤ at') (h1 : at' < 9223372036854775000) :
    OSpec Try.prog 20 [.ptr 0 0] [chs ls at'] fun s ho => ∃ (ts : List Tg) (a2 : Int), s = .rs 3 (ts.map tagE) ∧ ho = [chs ls a2] ∧ ts.length ≤ 5 ∧ at' ≤ a2 ∧ a2 ≤ at' + 30 ∧ (∀ t ∈ ts, -9223372036854775808 ≤ t.s ∧ t.s ≤ 9223372036854775807) := by
  refine .of_code tab_ok Try.func20 (by rfl) rfl trivial ?_
  have k0 := nxt_lo ls at' 6
  have k1 := nxt_hi ls at' 6 (by omega)
  conv => whnf
  refine (next_s ls at' 6 (by omega) (by omega) (by omega)).call [0] (by decide) (And.intro rfl trivial) (And.intro rfl trivial) ?_
  rintro _ _ ⟨rfl, rfl⟩
  conv => whnf
  refine LoopG.invE tab_ok 78 (fun x : { x : List Tg × Nat × Int × Int // x.1.length + x.2.1 ≤ 5 ∧ at' ≤ x.2.2.1 ∧ x.2.2.1 + 3 * x.2.1 ≤ at' + 16 ∧ -1 ≤ x.2.2.2 ∧ x.2.2.2 + 3 * x.2.1 ≤ 14 ∧ (∀ t ∈ x.1, -9223372036854775808 ≤ t.s ∧ t.s ≤ 9223372036854775807) } => [(0, .ptr 0 0), (3, .sl 1), (4, .int .i64 x.1.2.2.2), (5, .int .i64 (x.1.2.1 : Int))])
    (fun x => [chs ls x.1.2.2.1, .row 38 3 (x.1.1.map tagE)]) (fun x => x.1.2.1) ⟨([], (nxt ls at' 6).toNat, at' + 1, -1), by simp; omega⟩ 0
    (fun x : { x : List Tg × Int // x.1.length ≤ 5 ∧ at' ≤ x.2 ∧ x.2 ≤ at' + 16 ∧ (∀ t ∈ x.1, -9223372036854775808 ≤ t.s ∧ t.s ≤ 9223372036854775807) } => [(0, .ptr 0 0), (3, .sl 1)]) (fun x => [chs ls x.1.2, .row 38 3 (x.1.1.map tagE)]) (.of [some 0, none] (by rfl) ?_) ?_ ?_
  · conv => whnf
    refine ⟨by rfl, ?_⟩
    conv => whnf
    refine ⟨by simp; omega, ?_⟩
    conv => whnf
    refine ⟨by rfl, ?_⟩
    conv => whnf
    refine ⟨by rfl, ?_⟩
    conv => whnf
    refine ⟨by rfl, ?_⟩
    conv => whnf
    exact trivial
  · intro x
    obtain ⟨hx1, hx2, hx3, hx4, hx5, hx6⟩ := x.2
    have n0 := nxt_lo ls x.1.2.2.1 3
    have n1 := nxt_hi ls x.1.2.2.1 3 (by omega)
    have m0 := nxt_lo ls (x.1.2.2.1 + 1 + 1) 4
    have m1 := nxt_hi ls (x.1.2.2.1 + 1 + 1) 4 (by omega)
    conv => whnf
    refine ⟨fun hb => ?_, fun hb => ?_⟩
    · have hb : (0 : Int) < (x.1.2.1 : Int) := by simpa using hb
      have e1 : IntKind.i64.wrap (x.1.2.2.2 + IntKind.i64.wrap (1 + nxt ls x.1.2.2.1 3)) = x.1.2.2.2 + (1 + nxt ls x.1.2.2.1 3) := by rw [w64 (1 + _) (by omega) (by omega), w64 _ (by omega) (by omega)]
      have e2 : IntKind.i64.wrap (nxt ls (x.1.2.2.1 + 1 + 1) 4 * 1000) = nxt ls (x.1.2.2.1 + 1 + 1) 4 * 1000 := w64 _ (by omega) (by omega)
      have e3 : IntKind.i64.wrap ((x.1.2.1 : Int) - 1) = ((x.1.2.1 - 1 : Nat) : Int) := by rw [w64 _ (by omega) (by omega)]; omega
      conv => whnf
      refine (next_s _ _ _ (by first | omega | assumption | decide | simp) (by first | omega | assumption | decide | simp) (by first | omega | assumption | decide | simp)).call [0] (by decide) (And.intro rfl trivial) (And.intro rfl trivial) ?_
      rintro _ _ ⟨rfl, rfl⟩
      conv => whnf
      refine (weight_s _ _ (by first | omega | assumption | decide | simp) (by first | omega | assumption | decide | simp)).call [0] (by decide) trivial (And.intro rfl trivial) ?_
      rintro _ _ ⟨rfl, rfl⟩
      conv => whnf
      refine (next_s _ _ _ (by first | omega | assumption | decide | simp) (by first | omega | assumption | decide | simp) (by first | omega | assumption | decide | simp)).call [0] (by decide) (And.intro rfl trivial) (And.intro rfl trivial) ?_
      rintro _ _ ⟨rfl, rfl⟩
      conv => whnf
      refine ⟨by simp; omega, ?_⟩
      conv => whnf
      refine ⟨⟨(x.1.1 ++ [⟨x.1.2.2.2 + (1 + nxt ls x.1.2.2.1 3), wex ls (x.1.2.2.1 + 1), nxt ls (x.1.2.2.1 + 1 + 1) 4 * 1000⟩], x.1.2.1 - 1, x.1.2.2.1 + 1 + 1 + 1, x.1.2.2.2 + (1 + nxt ls x.1.2.2.1 3)), by simp; omega, by simp; omega, by simp; omega, by simp; omega, by simp; omega, fun t ht => by rcases List.mem_append.1 ht with h | h; exact hx6 t h; (simp at h; subst h; simp; omega)⟩, by show x.1.2.1 - 1 < x.1.2.1; omega, .of [some 0, some 3] (by rfl) ?_⟩
      conv => whnf
      refine ⟨by omega, ?_⟩
      conv => whnf
      refine ⟨by omega, ?_⟩
      conv => whnf
      refine ⟨by rfl, ?_⟩
      conv => whnf
      refine ⟨by rfl, ?_⟩
      conv => whnf
      refine ⟨by (rw [e1, e2]; simp [tagE]), ?_⟩
      conv => whnf
      exact trivial
    · have hb : ¬ (0 : Int) < (x.1.2.1 : Int) := by simpa using hb
      conv => whnf
      refine ⟨by rfl, ?_⟩
      conv => whnf
      refine ⟨⟨(x.1.1, x.1.2.2.1), by show x.1.1.length ≤ 5; omega, by show at' ≤ x.1.2.2.1; omega, by show x.1.2.2.1 ≤ at' + 16; omega, hx6⟩, .of [some 0, some 1] (by rfl) ?_⟩
      conv => whnf
      refine ⟨by rfl, ?_⟩
      conv => whnf
      refine ⟨by rfl, ?_⟩
      conv => whnf
      refine ⟨by rfl, ?_⟩
      conv => whnf
      exact trivial
  · intro x
    obtain ⟨hx1, hx2, hx3, hx4⟩ := x.2
    have r0 := nxt_lo ls (x.1.2 + 1) ((x.1.1.map tagE).length : Int)
    have r1 := nxt_hi ls (x.1.2 + 1) ((x.1.1.map tagE).length : Int)
    have q0 := nxt_lo ls (x.1.2 + 1 + 1 + 1) 2
    have q1 := nxt_hi ls (x.1.2 + 1 + 1 + 1) 2 (by omega)
    have hlen : (((x.1.1.map tagE).length : Nat) : Int) = (x.1.1.length : Int) := by simp
    have hm : ∀ i, i < x.1.1.length → -9223372036854775808 ≤ (getT x.1.1 i).s ∧ (getT x.1.1 i).s ≤ 9223372036854775807 := fun i hi => hx4 _ (getT_mem hi)
    have fin : ∀ (i : Nat) (f w s b : Int), -9223372036854775808 ≤ s ∧ s ≤ 9223372036854775807 → x.1.2 ≤ b → b ≤ x.1.2 + 10 → ∃ (ts2 : List Tg) (a2 : Int), SV.rs 3 ((x.1.1.map tagE).set i [.int .i64 f, .int .i64 w, .int .i64 s]) = .rs 3 (ts2.map tagE) ∧ [chs ls b] = [chs ls a2] ∧ ts2.length ≤ 5 ∧ at' ≤ a2 ∧ a2 ≤ at' + 30 ∧ (∀ t ∈ ts2, -9223372036854775808 ≤ t.s ∧ t.s ≤ 9223372036854775807) := by
      intro i f w s b hs hb1 hb2
      refine ⟨x.1.1.set i ⟨f, w, s⟩, b, by rw [tgs_set], rfl, by simpa using hx1, by omega, by omega, fun t ht => ?_⟩
      rcases List.mem_or_eq_of_mem_set ht with h | h
      · exact hx4 t h
      · subst h; exact hs
    have fin0 : ∀ b : Int, x.1.2 ≤ b → b ≤ x.1.2 + 10 → ∃ (ts2 : List Tg) (a2 : Int), SV.rs 3 (x.1.1.map tagE) = .rs 3 (ts2.map tagE) ∧ [chs ls b] = [chs ls a2] ∧ ts2.length ≤ 5 ∧ at' ≤ a2 ∧ a2 ≤ at' + 30 ∧ (∀ t ∈ ts2, -9223372036854775808 ≤ t.s ∧ t.s ≤ 9223372036854775807) :=
      fun b hb1 hb2 => ⟨x.1.1, b, rfl, rfl, hx1, by omega, by omega, hx4⟩
    conv => whnf
    refine ⟨fun hh0 => ?_, fun hh0 => ?_⟩
    · simp only [decide_eq_true_eq, decide_eq_false_iff_not] at hh0
      conv => whnf
      refine (next_s _ _ _ (by first | omega | assumption | decide | simp) (by first | omega | assumption | decide | simp) (by first | omega | assumption | decide | simp)).call [0] (by decide) (And.intro rfl trivial) (And.intro rfl trivial) ?_
      rintro _ _ ⟨rfl, rfl⟩
      conv => whnf
      refine ⟨fun hh11 => ?_, fun hh11 => ?_⟩
      · simp only [decide_eq_true_eq, decide_eq_false_iff_not] at hh11
        conv => whnf
        refine (next_s _ _ _ (by first | omega | assumption | decide | simp) (by first | omega | assumption | decide | simp) (by first | omega | assumption | decide | simp)).call [0] (by decide) (And.intro rfl trivial) (And.intro rfl trivial) ?_
        rintro _ _ ⟨rfl, rfl⟩
        conv => whnf
        refine (next_s _ _ _ (by first | omega | assumption | decide | simp) (by first | omega | assumption | decide | simp) (by first | omega | assumption | decide | simp)).call [0] (by decide) (And.intro rfl trivial) (And.intro rfl trivial) ?_
        rintro _ _ ⟨rfl, rfl⟩
        conv => whnf
        refine ⟨fun hh32 => ?_, fun hh32 => ?_⟩
        · simp only [decide_eq_true_eq, decide_eq_false_iff_not] at hh32
          conv => whnf
          refine (next_s _ _ _ (by first | omega | assumption | decide | simp) (by first | omega | assumption | decide | simp) (by first | omega | assumption | decide | simp)).call [0] (by decide) (And.intro rfl trivial) (And.intro rfl trivial) ?_
          rintro _ _ ⟨rfl, rfl⟩
          conv => whnf
          refine ⟨by exact ⟨nxt_lo _ _ _, nxt_hi _ _ _ (by omega)⟩, ?_⟩
          conv => whnf
          refine ⟨_, lit_get (l := [-1, 0, 32]) (nxt_lo _ _ _) (nxt_hi _ _ _ (by decide)), ?_⟩
          conv => whnf
          refine ⟨by omega, ?_⟩
          conv => whnf
          refine ⟨_, tgg_get (by have r2 := r1 (by omega); omega), ?_⟩
          conv => whnf
          refine fin _ _ _ _ _ (hm _ (by have r2 := r1 (by omega); omega)) (by omega) (by omega)
        · simp only [decide_eq_true_eq, decide_eq_false_iff_not] at hh32
          conv => whnf
          refine ⟨fun hh46 => ?_, fun hh46 => ?_⟩
          · simp only [decide_eq_true_eq, decide_eq_false_iff_not] at hh46
            conv => whnf
            refine (next_s _ _ _ (by first | omega | assumption | decide | simp) (by first | omega | assumption | decide | simp) (by first | omega | assumption | decide | simp)).call [0] (by decide) (And.intro rfl trivial) (And.intro rfl trivial) ?_
            rintro _ _ ⟨rfl, rfl⟩
            conv => whnf
            refine ⟨by simp; omega, ?_⟩
            conv => whnf
            refine ⟨_, lit_get (l := [0, 17]) (nxt_lo _ _ _) (nxt_hi _ _ _ (by decide)), ?_⟩
            conv => whnf
            refine ⟨by omega, ?_⟩
            conv => whnf
            refine ⟨_, tgg_get (by have r2 := r1 (by omega); omega), ?_⟩
            conv => whnf
            refine fin _ _ _ _ _ (hm _ (by have r2 := r1 (by omega); omega)) (by omega) (by omega)
          · simp only [decide_eq_true_eq, decide_eq_false_iff_not] at hh46
            conv => whnf
            refine ⟨fun hh60 => ?_, fun hh60 => ?_⟩
            · simp only [decide_eq_true_eq, decide_eq_false_iff_not] at hh60
              conv => whnf
              refine ⟨by omega, ?_⟩
              conv => whnf
              refine ⟨_, tgg_get (by have r2 := r1 (by omega); omega), ?_⟩
              conv => whnf
              refine fin _ _ _ _ _ (by omega) (by omega) (by omega)
            · simp only [decide_eq_true_eq, decide_eq_false_iff_not] at hh60
              conv => whnf
              refine (next_s _ _ _ (by first | omega | assumption | decide | simp) (by first | omega | assumption | decide | simp) (by first | omega | assumption | decide | simp)).call [0] (by decide) (And.intro rfl trivial) (And.intro rfl trivial) ?_
              rintro _ _ ⟨rfl, rfl⟩
              conv => whnf
              refine ⟨by omega, ?_⟩
              conv => whnf
              refine ⟨_, tgg_get (by have r2 := r1 (by omega); omega), ?_⟩
              conv => whnf
              refine fin _ _ _ _ _ (by rw [w64 _ (by omega) (by omega)]; omega) (by omega) (by omega)
      · simp only [decide_eq_true_eq, decide_eq_false_iff_not] at hh11
        conv => whnf
        refine fin0 _ (by omega) (by omega)
    · simp only [decide_eq_true_eq, decide_eq_false_iff_not] at hh0
      conv => whnf
      refine fin0 _ (by omega) (by omega)
end Go.Proofs.Ythlomoacacebeac

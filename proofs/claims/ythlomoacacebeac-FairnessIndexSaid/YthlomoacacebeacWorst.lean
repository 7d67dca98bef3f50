/- Lists of samples: usable, Worst and its reference. No statement of the seat is proved here. -/
import Derived.Test.YthlomoacacebeacFairPairs
namespace Go.Proofs.Ythlomoacacebeac
open Go.Sx
set_option linter.unusedSimpArgs false
set_option linter.unusedVariables false
abbrev smpR (s : Int × Int × Int) : List SV := [.int .i64 s.1, .int .i64 s.2.1, .int .i64 s.2.2]
abbrev gs (l : List (Int × Int × Int)) (i : Nat) : Int × Int × Int := l.getD i (0, 0, 0)
theorem gs_get {l : List (Int × Int × Int)} {i : Nat} (h : i < l.length) : (l.map smpR)[(i : Int).toNat]? = some [SV.int .i64 (gs l i).1, SV.int .i64 (gs l i).2.1, SV.int .i64 (gs l i).2.2] := by
  rw [Int.toNat_natCast, List.getElem?_map, List.getElem?_eq_getElem h]
  simp [List.getD, List.getElem?_eq_getElem h]
def allS (l : List (Int × Int × Int)) : Prop := ∀ i, i < l.length → smpOk (gs l i).1 (gs l i).2.1 (gs l i).2.2 = true
def usO (l : List (Int × Int × Int)) : Prop := l.length ≤ 32 ∧ allS l
open Classical in
noncomputable def use (l : List (Int × Int × Int)) (least : Int) : Int := if usO l then (if (l.length : Int) < least then 5 else 0) else 1
open Classical in
noncomputable def usB (l : List (Int × Int × Int)) : Bool := decide (usO l)
theorem us_no {l : List (Int × Int × Int)} (least : Int) (h : ¬ usO l) : use l least = 1 ∧ usB l = false := by simp [use, usB, h]
theorem us_yes {l : List (Int × Int × Int)} (least : Int) (h : usO l) : use l least = (if (l.length : Int) < least then 5 else 0) ∧ usB l = true := by simp [use, usB, h]
theorem us_all {l : List (Int × Int × Int)} {i : Nat} (hi : i < l.length) (h : smpOk (gs l i).1 (gs l i).2.1 (gs l i).2.2 = false) : ¬ usO l := fun hu => by rw [hu.2 i hi] at h; cases h
theorem usable_s (l : List (Int × Int × Int)) (hlen : l.length ≤ 1000000) (least : Int) : PSpec Try.prog 77 [.rs 3 (l.map smpR), .int .i64 least] (· = .int .i64 (use l least)) := by
  refine .of_code' tab_ok Try.func77 (by rfl) rfl trivial ?_
  have hl : (l.map smpR).length = l.length := by simp
  have bad : ¬ usO l → SV.int .i64 1 = SV.int .i64 (use l least) := fun h => int_e (us_no least h).1.symm
  conv => whnf
  refine ⟨fun c1 => ?_, fun c1 => ?_⟩
  · simp only [decide_eq_true_eq, decide_eq_false_iff_not] at c1
    conv => whnf
    exact bad fun h => by have := h.1; omega
  simp only [decide_eq_true_eq, decide_eq_false_iff_not] at c1
  conv => whnf
  refine LoopG.inv tab_ok 24 (fun i : { i : Nat // i ≤ l.length ∧ ∀ j, j < i → smpOk (gs l j).1 (gs l j).2.1 (gs l j).2.2 = true } => [(0, .rs 3 (l.map smpR)), (1, .int .i64 least), (10, .rs 3 (l.map smpR)), (11, .int .i64 ((l.map smpR).length : Int)), (12, .int .i64 (i.1 : Int))])
    (fun _ => []) (fun i => l.length - i.1) ⟨0, by omega, by intro j hj; omega⟩ (.of [] (by decide) ?_) ?_
  · conv => whnf
    refine ⟨by rfl, ?_⟩
    conv => whnf
    refine ⟨by rfl, ?_⟩
    conv => whnf
    refine ⟨by rfl, ?_⟩
    conv => whnf
    refine ⟨by rfl, ?_⟩
    conv => whnf
    refine ⟨by rfl, ?_⟩
    conv => whnf
    exact trivial
  · intro i
    obtain ⟨hi, hg⟩ := i.2
    conv => whnf
    refine ⟨fun hb => ?_, fun hb => ?_⟩
    · have hb : i.1 < l.length := by simpa [hl] using hb
      conv => whnf
      refine ⟨by omega, ?_⟩
      conv => whnf
      refine ⟨_, gs_get hb, ?_⟩
      conv => whnf
      refine (fvalid_s _ _ _).call ?_
      rintro _ rfl
      conv => whnf
      refine ⟨fun hh11 => ?_, fun hh11 => ?_⟩
      · simp only [decide_eq_true_eq, decide_eq_false_iff_not, Bool.not_eq_true, Bool.not_eq_false, Bool.not_eq_true', Bool.not_eq_false', Bool.and_eq_true, Bool.and_eq_false_iff, Int.not_lt, Int.not_le, Decidable.not_not, beq_iff_eq, Bool.not_eq_eq_eq_not, Bool.not_true, Bool.not_false, beq_eq_false_iff_ne, ne_eq, decide_eq_decide] at hh11
        conv => whnf
        refine .same ?_
        conv => whnf
        exact bad (us_all hb (by simp_all))
      · simp only [decide_eq_true_eq, decide_eq_false_iff_not, Bool.not_eq_true, Bool.not_eq_false, Bool.not_eq_true', Bool.not_eq_false', Bool.and_eq_true, Bool.and_eq_false_iff, Int.not_lt, Int.not_le, Decidable.not_not, beq_iff_eq, Bool.not_eq_eq_eq_not, Bool.not_true, Bool.not_false, beq_eq_false_iff_ne, ne_eq, decide_eq_decide] at hh11
        conv => whnf
        refine ⟨⟨i.1 + 1, by omega, fun j hj => (by rcases Nat.lt_succ_iff_lt_or_eq.1 hj with h | h; exact hg j h; (subst h; simp_all))⟩, by show l.length - (i.1 + 1) < l.length - i.1; omega, .of [] (by decide) ?_⟩
        conv => whnf
        refine ⟨by rfl, ?_⟩
        conv => whnf
        refine ⟨by rfl, ?_⟩
        conv => whnf
        refine ⟨by rfl, ?_⟩
        conv => whnf
        refine ⟨by rfl, ?_⟩
        conv => whnf
        refine ⟨by exact (w64 _ (by omega) (by omega)).trans (by simp), ?_⟩
        conv => whnf
        exact trivial
    · have hb : i.1 = l.length := by simp [hl] at hb; omega
      have hO : usO l := ⟨by omega, fun j hj => hg j (by omega)⟩
      have y1 := (us_yes least hO).1
      conv => whnf
      refine .same ?_
      conv => whnf
      refine ⟨fun c4 => ?_, fun c4 => ?_⟩
      · have c4 : (l.length : Int) < least := by simpa [hl] using c4
        conv => whnf
        exact int_e (by rw [y1, if_pos c4])
      · have c4 : ¬ (l.length : Int) < least := by simpa [hl] using c4
        conv => whnf
        exact int_e (by rw [y1, if_neg c4])
theorem rsamples_s (l : List (Int × Int × Int)) (hlen : l.length ≤ 1000000) : PSpec Try.prog 90 [.rs 3 (l.map smpR)] (· = .bool (usB l)) := by
  refine .of_code' tab_ok Try.func90 (by rfl) rfl trivial ?_
  have hl : (l.map smpR).length = l.length := by simp
  conv => whnf
  refine LoopG.inv tab_ok 19 (fun i : { i : Nat // i ≤ l.length ∧ ∀ j, j < i → smpOk (gs l j).1 (gs l j).2.1 (gs l j).2.2 = true } => [(0, .rs 3 (l.map smpR)), (3, .int .i64 (i.1 : Int))])
    (fun _ => []) (fun i => l.length - i.1) ⟨0, by omega, by intro j hj; omega⟩ (.of [] (by decide) ?_) ?_
  · conv => whnf
    refine ⟨by rfl, ?_⟩
    conv => whnf
    refine ⟨by rfl, ?_⟩
    conv => whnf
    exact trivial
  · intro i
    obtain ⟨hi, hg⟩ := i.2
    conv => whnf
    refine ⟨fun hb => ?_, fun hb => ?_⟩
    · have hb : i.1 < l.length := by simpa [hl] using hb
      conv => whnf
      refine ⟨by omega, ?_⟩
      conv => whnf
      refine ⟨_, gs_get hb, ?_⟩
      conv => whnf
      refine (rsvalid_s _ _ _).call ?_
      rintro _ rfl
      conv => whnf
      refine ⟨fun hh11 => ?_, fun hh11 => ?_⟩
      · simp only [decide_eq_true_eq, decide_eq_false_iff_not, Bool.not_eq_true, Bool.not_eq_false, Bool.not_eq_true', Bool.not_eq_false', Bool.and_eq_true, Bool.and_eq_false_iff, Int.not_lt, Int.not_le, Decidable.not_not, beq_iff_eq, Bool.not_eq_eq_eq_not, Bool.not_true, Bool.not_false, beq_eq_false_iff_ne, ne_eq, decide_eq_decide] at hh11
        conv => whnf
        refine .same ?_
        conv => whnf
        exact bool_e (us_no 0 (us_all hb (by simp_all))).2.symm
      · simp only [decide_eq_true_eq, decide_eq_false_iff_not, Bool.not_eq_true, Bool.not_eq_false, Bool.not_eq_true', Bool.not_eq_false', Bool.and_eq_true, Bool.and_eq_false_iff, Int.not_lt, Int.not_le, Decidable.not_not, beq_iff_eq, Bool.not_eq_eq_eq_not, Bool.not_true, Bool.not_false, beq_eq_false_iff_ne, ne_eq, decide_eq_decide] at hh11
        conv => whnf
        refine ⟨⟨i.1 + 1, by omega, fun j hj => (by rcases Nat.lt_succ_iff_lt_or_eq.1 hj with h | h; exact hg j h; (subst h; simp_all))⟩, by show l.length - (i.1 + 1) < l.length - i.1; omega, .of [] (by decide) ?_⟩
        conv => whnf
        refine ⟨by rfl, ?_⟩
        conv => whnf
        refine ⟨by exact (w64 _ (by omega) (by omega)).trans (by simp), ?_⟩
        conv => whnf
        exact trivial
    · have hb : i.1 = l.length := by simp [hl] at hb; omega
      by_cases h32 : l.length ≤ 32
      · have hO : usO l := ⟨h32, fun j hj => hg j (by omega)⟩
        have y1 := (us_yes 0 hO).2
        conv => whnf
        refine .same ?_
        conv => whnf
        exact bool_e (by rw [y1, hl]; exact decide_eq_true (by omega))
      · have hO : ¬ usO l := fun h => h32 h.1
        have y1 := (us_no 0 hO).2
        conv => whnf
        refine .same ?_
        conv => whnf
        exact bool_e (by rw [y1, hl]; exact decide_eq_false (by omega))
/-! ### Worst -/
/-- By how much a pair's gap exceeds the bound. -/
def exD (l : List (Int × Int × Int)) (i k : Nat) : Int := gpv (gs l i).1 (gs l i).2.1 (gs l i).2.2 (gs l k).1 (gs l k).2.1 (gs l k).2.2 - bdv (gs l i).1 (gs l i).2.1 (gs l i).2.2 (gs l k).1 (gs l k).2.1 (gs l k).2.2
structure Wst where
  a : Int
  b : Int
  m : Int
def wStep (l : List (Int × Int × Int)) (i k : Nat) (s : Wst) : Wst := if s.m < exD l i k then ⟨i, k, exD l i k⟩ else s
/-- The pairs (i, i+1) .. (i, i+n). -/
def wIn (l : List (Int × Int × Int)) (i : Nat) (s : Wst) : Nat → Wst
  | 0 => s
  | n + 1 => wStep l i (i + 1 + n) (wIn l i s n)
def wOut (l : List (Int × Int × Int)) (s : Wst) : Nat → Wst
  | 0 => s
  | i + 1 => wIn l i (wOut l s i) (l.length - (i + 1))
def w0 : Wst := ⟨0, 1, -4611686018427387904⟩
open Classical in
noncomputable def wsv (l : List (Int × Int × Int)) : Wst := if usO l ∧ 2 ≤ l.length then wOut l w0 l.length else ⟨0, 0, 0⟩
theorem gb_rng (w b m x c n : Int) : (0 ≤ gpv w b m x c n ∧ gpv w b m x c n ≤ 1584880040741437440) ∧ -1584880040741437440 ≤ bdv w b m x c n ∧ bdv w b m x c n ≤ 1584880040741437440 := by
  have r1 := nov_rng b w
  have r2 := nov_rng c x
  have r3 := nov_rng m w
  have r4 := nov_rng n x
  unfold gpv bdv absI
  refine ⟨?_, ?_⟩ <;> (repeat' split) <;> omega
theorem exD_rng (l : List (Int × Int × Int)) (i k : Nat) : -4611686018427387904 < exD l i k ∧ exD l i k < 4611686018427387904 := by
  have := gb_rng (gs l i).1 (gs l i).2.1 (gs l i).2.2 (gs l k).1 (gs l k).2.1 (gs l k).2.2
  unfold exD; omega
theorem exD_w (l : List (Int × Int × Int)) (i k : Nat) : IntKind.i64.wrap (gpv (gs l i).1 (gs l i).2.1 (gs l i).2.2 (gs l k).1 (gs l k).2.1 (gs l k).2.2 - bdv (gs l i).1 (gs l i).2.1 (gs l i).2.2 (gs l k).1 (gs l k).2.1 (gs l k).2.2) = exD l i k := by
  have := exD_rng l i k
  unfold exD at *
  exact w64 _ (by omega) (by omega)
theorem wIn_b (l : List (Int × Int × Int)) (i : Nat) (s : Wst) (h : s.b ≠ 0) : ∀ n, (wIn l i s n).b ≠ 0 := by
  intro n
  induction n with
  | zero => exact h
  | succ n ih => simp only [wIn, wStep]; split
                 · show ((i + 1 + n : Nat) : Int) ≠ 0; omega
                 · exact ih
theorem wOut_b (l : List (Int × Int × Int)) : ∀ i, (wOut l w0 i).b ≠ 0 := by
  intro i
  induction i with
  | zero => show (1 : Int) ≠ 0; decide
  | succ i ih => simp only [wOut]; exact wIn_b l i _ ih _
/-- What the program's state is, before and behind the first pair. -/
def pI (l : List (Int × Int × Int)) (i n : Nat) (s : Wst) : Prop := (i = 0 ∧ n = 0 ∧ s = ⟨0, 0, 0⟩) ∨ (¬ (i = 0 ∧ n = 0) ∧ s = wIn l i (wOut l w0 i) n)
def pO (l : List (Int × Int × Int)) (i : Nat) (s : Wst) : Prop := (i = 0 ∧ s = ⟨0, 0, 0⟩) ∨ (i ≠ 0 ∧ s = wOut l w0 i)
theorem pI_yes {l : List (Int × Int × Int)} {i n : Nat} {s : Wst} (h : pI l i n s) (hc : s.b = 0 ∨ s.m < exD l i (i + 1 + n)) : pI l i (n + 1) ⟨i, (i + 1 + n : Nat), exD l i (i + 1 + n)⟩ := by
  refine .inr ⟨by omega, ?_⟩
  simp only [wIn, wStep]
  rcases h with ⟨rfl, rfl, rfl⟩ | ⟨h1, rfl⟩
  · exact (if_pos (show w0.m < exD l 0 (0 + 1 + 0) from (exD_rng l 0 _).1)).symm
  · rw [if_pos (hc.resolve_left (wIn_b l i _ (wOut_b l i) n))]
theorem pI_no {l : List (Int × Int × Int)} {i n : Nat} {s : Wst} (h : pI l i n s) (h0 : ¬ s.b = 0) (hc : ¬ s.m < exD l i (i + 1 + n)) : pI l i (n + 1) s := by
  rcases h with ⟨rfl, rfl, rfl⟩ | ⟨h1, rfl⟩
  · exact (h0 rfl).elim
  · refine .inr ⟨by omega, ?_⟩
    simp only [wIn, wStep]; rw [if_neg hc]
theorem pI_start {l : List (Int × Int × Int)} {i : Nat} {s : Wst} (h : pO l i s) : pI l i 0 s := by
  rcases h with ⟨rfl, rfl⟩ | ⟨h1, rfl⟩
  · exact .inl ⟨rfl, rfl, rfl⟩
  · exact .inr ⟨by omega, rfl⟩
theorem pI_end {l : List (Int × Int × Int)} {i n : Nat} {s : Wst} (h2 : 2 ≤ l.length) (h : pI l i n s) (hi : i < l.length) (hn : n = l.length - (i + 1)) : pO l (i + 1) s := by
  rcases h with ⟨rfl, rfl, rfl⟩ | ⟨h1, rfl⟩
  · omega
  · subst hn; exact .inr ⟨by omega, rfl⟩
theorem tup3e {a b c x y z : Int} (h1 : a = x) (h2 : b = y) (h3 : c = z) : SV.tup [.int .i64 a, .int .i64 b, .int .i64 c] = .tup [.int .i64 x, .int .i64 y, .int .i64 z] := by rw [h1, h2, h3]
theorem ws_no {l : List (Int × Int × Int)} (h : ¬ usO l) : wsv l = ⟨0, 0, 0⟩ ∧ use l 2 = 1 := ⟨by unfold wsv; exact if_neg fun q => h q.1, (us_no 2 h).1⟩
theorem ws_few {l : List (Int × Int × Int)} (h : usO l) (h2 : ¬ 2 ≤ l.length) : wsv l = ⟨0, 0, 0⟩ ∧ use l 2 = 5 := ⟨by unfold wsv; exact if_neg fun q => h2 q.2, by rw [(us_yes 2 h).1, if_pos (by omega)]⟩
theorem ws_yes {l : List (Int × Int × Int)} (h : usO l) (h2 : 2 ≤ l.length) : wsv l = wOut l w0 l.length ∧ use l 2 = 0 := ⟨by unfold wsv; exact if_pos ⟨h, h2⟩, by rw [(us_yes 2 h).1, if_neg (by omega)]⟩
theorem worst_s (l : List (Int × Int × Int)) (hlen : l.length ≤ 1000000) : PSpec Try.prog 74 [.rs 3 (l.map smpR)] (· = .tup [.int .i64 (wsv l).a, .int .i64 (wsv l).b, .int .i64 (use l 2)]) := by
  refine .of_code' tab_ok Try.func74 (by rfl) rfl trivial ?_
  have hl : (l.map smpR).length = l.length := by simp
  by_cases hO : usO l
  · by_cases h2 : 2 ≤ l.length
    · obtain ⟨y1, y2⟩ := ws_yes hO h2
      rw [y1, y2]
      conv => whnf
      refine (usable_s _ (by first | omega | assumption | decide | simp) _).call ?_
      rintro _ rfl
      rw [y2]
      conv => whnf
      refine both_f (by rfl) ?_
      conv => whnf
      refine LoopG.inv tab_ok 74 (fun x : { x : Nat × Wst // x.1 ≤ l.length ∧ pO l x.1 x.2 } => [(0, .rs 3 (l.map smpR)), (6, .int .i64 x.1.2.a), (7, .int .i64 x.1.2.b), (8, .int .i64 x.1.2.m), (21, .int .i64 ((l.map smpR).length : Int)), (22, .int .i64 (x.1.1 : Int))])
        (fun _ => []) (fun x => l.length - x.1.1) ⟨(0, ⟨0, 0, 0⟩), by show 0 ≤ l.length; omega, .inl ⟨rfl, rfl⟩⟩ (.of [] (by decide) ?_) ?_
      · conv => whnf
        refine ⟨by rfl, ?_⟩
        conv => whnf
        refine ⟨by rfl, ?_⟩
        conv => whnf
        refine ⟨by rfl, ?_⟩
        conv => whnf
        refine ⟨by rfl, ?_⟩
        conv => whnf
        refine ⟨by rfl, ?_⟩
        conv => whnf
        refine ⟨by rfl, ?_⟩
        conv => whnf
        exact trivial
      · intro x
        obtain ⟨hx1, hx2⟩ := x.2
        conv => whnf
        refine ⟨fun hb => ?_, fun hb => ?_⟩
        · have hb : x.1.1 < l.length := by simpa [hl] using hb
          conv => whnf
          refine LoopG.inv tab_ok 74 (fun y : { y : Nat × Wst // x.1.1 + 1 + y.1 ≤ l.length ∧ pI l x.1.1 y.1 y.2 } => [(0, .rs 3 (l.map smpR)), (6, .int .i64 y.1.2.a), (7, .int .i64 y.1.2.b), (8, .int .i64 y.1.2.m), (9, .int .i64 (x.1.1 : Int)), (10, .int .i64 ((x.1.1 + 1 + y.1.1 : Nat) : Int)), (21, .int .i64 ((l.map smpR).length : Int)), (22, .int .i64 (x.1.1 : Int))])
            (fun _ => []) (fun y => l.length - y.1.1) ⟨(0, x.1.2), by show x.1.1 + 1 + 0 ≤ l.length; omega, pI_start hx2⟩ (.of [] (by decide) ?_) ?_
          · conv => whnf
            refine ⟨by rfl, ?_⟩
            conv => whnf
            refine ⟨by rfl, ?_⟩
            conv => whnf
            refine ⟨by rfl, ?_⟩
            conv => whnf
            refine ⟨by rfl, ?_⟩
            conv => whnf
            refine ⟨by rfl, ?_⟩
            conv => whnf
            refine ⟨by exact (w64 _ (by omega) (by omega)).trans (by simp), ?_⟩
            conv => whnf
            refine ⟨by rfl, ?_⟩
            conv => whnf
            refine ⟨by rfl, ?_⟩
            conv => whnf
            exact trivial
          · intro y
            obtain ⟨hy1, hy2⟩ := y.2
            conv => whnf
            refine ⟨fun hc => ?_, fun hc => ?_⟩
            · have hc : x.1.1 + 1 + y.1.1 < l.length := by rw [hl] at hc; simp only [decide_eq_true_eq] at hc; omega
              have ew := exD_w l x.1.1 (x.1.1 + 1 + y.1.1)
              have pn : ((x.1.1 + 1 + y.1.1 : Nat) : Int) + 1 = ((x.1.1 + 1 + (y.1.1 + 1) : Nat) : Int) := by omega
              conv => whnf
              refine DrawG.of mixed tab_ok ?_
              conv => whnf
              refine ⟨by omega, ?_⟩
              conv => whnf
              refine ⟨_, gs_get hb, ?_⟩
              conv => whnf
              refine ⟨by omega, ?_⟩
              conv => whnf
              refine ⟨_, gs_get hc, ?_⟩
              conv => whnf
              refine (gap_s _ _ _ _ _ _).calld ?_
              conv => whnf
              refine ⟨by kernel_rfl, ?_⟩
              conv => whnf
              refine DrawG.of mixed tab_ok ?_
              conv => whnf
              refine ⟨by omega, ?_⟩
              conv => whnf
              refine ⟨_, gs_get hb, ?_⟩
              conv => whnf
              refine ⟨by omega, ?_⟩
              conv => whnf
              refine ⟨_, gs_get hc, ?_⟩
              conv => whnf
              refine (bound_s _ _ _ _ _ _).calld ?_
              conv => whnf
              refine ⟨by kernel_rfl, ?_⟩
              conv => whnf
              refine ⟨fun hh24 => ?_, fun hh24 => ?_⟩
              · simp only [decide_eq_true_eq, decide_eq_false_iff_not] at hh24
                conv => whnf
                refine ⟨⟨(y.1.1 + 1, ⟨x.1.1, (x.1.1 + 1 + y.1.1 : Nat), exD l x.1.1 (x.1.1 + 1 + y.1.1)⟩), by show x.1.1 + 1 + (y.1.1 + 1) ≤ l.length; omega, pI_yes hy2 (by first | exact .inl (by assumption) | exact .inr (by rw [← ew]; assumption))⟩, by show l.length - (y.1.1 + 1) < l.length - y.1.1; omega, .of [] (by decide) ?_⟩
                conv => whnf
                refine ⟨by rfl, ?_⟩
                conv => whnf
                refine ⟨by rfl, ?_⟩
                conv => whnf
                refine ⟨by rfl, ?_⟩
                conv => whnf
                refine ⟨by omega, ?_⟩
                conv => whnf
                refine ⟨by rfl, ?_⟩
                conv => whnf
                refine ⟨by exact (w64 _ (by omega) (by omega)).trans (by omega), ?_⟩
                conv => whnf
                refine ⟨by rfl, ?_⟩
                conv => whnf
                refine ⟨by rfl, ?_⟩
                conv => whnf
                exact trivial
              · simp only [decide_eq_true_eq, decide_eq_false_iff_not] at hh24
                conv => whnf
                refine ⟨fun hh26 => ?_, fun hh26 => ?_⟩
                · simp only [decide_eq_true_eq, decide_eq_false_iff_not] at hh26
                  conv => whnf
                  refine ⟨⟨(y.1.1 + 1, ⟨x.1.1, (x.1.1 + 1 + y.1.1 : Nat), exD l x.1.1 (x.1.1 + 1 + y.1.1)⟩), by show x.1.1 + 1 + (y.1.1 + 1) ≤ l.length; omega, pI_yes hy2 (by first | exact .inl (by assumption) | exact .inr (by rw [← ew]; assumption))⟩, by show l.length - (y.1.1 + 1) < l.length - y.1.1; omega, .of [] (by decide) ?_⟩
                  conv => whnf
                  refine ⟨by rfl, ?_⟩
                  conv => whnf
                  refine ⟨by rfl, ?_⟩
                  conv => whnf
                  refine ⟨by rfl, ?_⟩
                  conv => whnf
                  refine ⟨by omega, ?_⟩
                  conv => whnf
                  refine ⟨by rfl, ?_⟩
                  conv => whnf
                  refine ⟨by exact (w64 _ (by omega) (by omega)).trans (by omega), ?_⟩
                  conv => whnf
                  refine ⟨by rfl, ?_⟩
                  conv => whnf
                  refine ⟨by rfl, ?_⟩
                  conv => whnf
                  exact trivial
                · simp only [decide_eq_true_eq, decide_eq_false_iff_not] at hh26
                  conv => whnf
                  refine ⟨⟨(y.1.1 + 1, y.1.2), by show x.1.1 + 1 + (y.1.1 + 1) ≤ l.length; omega, pI_no hy2 (by assumption) (by rw [← ew]; assumption)⟩, by show l.length - (y.1.1 + 1) < l.length - y.1.1; omega, .of [] (by decide) ?_⟩
                  conv => whnf
                  refine ⟨by rfl, ?_⟩
                  conv => whnf
                  refine ⟨by rfl, ?_⟩
                  conv => whnf
                  refine ⟨by rfl, ?_⟩
                  conv => whnf
                  refine ⟨by rfl, ?_⟩
                  conv => whnf
                  refine ⟨by rfl, ?_⟩
                  conv => whnf
                  refine ⟨by exact (w64 _ (by omega) (by omega)).trans (by omega), ?_⟩
                  conv => whnf
                  refine ⟨by rfl, ?_⟩
                  conv => whnf
                  refine ⟨by rfl, ?_⟩
                  conv => whnf
                  exact trivial
            · have hc : y.1.1 = l.length - (x.1.1 + 1) := by rw [hl] at hc; simp only [decide_eq_false_iff_not] at hc; omega
              conv => whnf
              refine .same ?_
              conv => whnf
              refine ⟨⟨(x.1.1 + 1, y.1.2), by show x.1.1 + 1 ≤ l.length; omega, pI_end h2 hy2 hb hc⟩, by show l.length - (x.1.1 + 1) < l.length - x.1.1; omega, .of [] (by decide) ?_⟩
              conv => whnf
              refine ⟨by rfl, ?_⟩
              conv => whnf
              refine ⟨by rfl, ?_⟩
              conv => whnf
              refine ⟨by rfl, ?_⟩
              conv => whnf
              refine ⟨by rfl, ?_⟩
              conv => whnf
              refine ⟨by rfl, ?_⟩
              conv => whnf
              refine ⟨by exact (w64 _ (by omega) (by omega)).trans (by simp), ?_⟩
              conv => whnf
              exact trivial
        · have hb : x.1.1 = l.length := by simp [hl] at hb; omega
          have e : x.1.2 = wOut l w0 l.length := by
            rcases hx2 with ⟨q, _⟩ | ⟨_, q⟩
            · omega
            · rw [q, hb]
          conv => whnf
          refine .same ?_
          conv => whnf
          (rw [e])
    · obtain ⟨y1, y2⟩ := ws_few hO h2
      rw [y1, y2]
      conv => whnf
      refine (usable_s _ (by first | omega | assumption | decide | simp) _).call ?_
      rintro _ rfl
      rw [y2]
      conv => whnf
      refine both_t rfl ?_
      conv => whnf
  · obtain ⟨y1, y2⟩ := ws_no hO
    rw [y1, y2]
    conv => whnf
    refine (usable_s _ (by first | omega | assumption | decide | simp) _).call ?_
    rintro _ rfl
    rw [y2]
    conv => whnf
    refine both_t rfl ?_
    conv => whnf
theorem rworst_s (l : List (Int × Int × Int)) (hlen : l.length ≤ 1000000) : PSpec Try.prog 75 [.rs 3 (l.map smpR)] (· = .tup [.int .i64 (wsv l).a, .int .i64 (wsv l).b, .int .i64 (use l 2)]) := by
  refine .of_code' tab_ok Try.func75 (by rfl) rfl trivial ?_
  have hl : (l.map smpR).length = l.length := by simp
  by_cases hO : usO l
  · have hB := (us_yes 0 hO).2
    by_cases h2 : 2 ≤ l.length
    · obtain ⟨y1, y2⟩ := ws_yes hO h2
      rw [y1, y2]
      conv => whnf
      refine (rsamples_s _ (by first | omega | assumption | decide | simp)).call ?_
      rintro _ rfl
      conv => whnf
      refine both_f (by rw [hB]; rfl) ?_
      conv => whnf
      refine both_f (by rw [hl]; exact decide_eq_false (by omega)) ?_
      conv => whnf
      refine LoopG.inv tab_ok 70 (fun x : { x : Nat × Wst // x.1 ≤ l.length ∧ x.2 = wOut l w0 x.1 } => [(0, .rs 3 (l.map smpR)), (5, .int .i64 x.1.2.a), (6, .int .i64 x.1.2.b), (7, .int .i64 x.1.2.m), (8, .int .i64 (x.1.1 : Int))])
        (fun _ => []) (fun x => l.length - x.1.1) ⟨(0, w0), by show 0 ≤ l.length; omega, rfl⟩ (.of [] (by decide) ?_) ?_
      · conv => whnf
        refine ⟨by rfl, ?_⟩
        conv => whnf
        refine ⟨by rfl, ?_⟩
        conv => whnf
        refine ⟨by rfl, ?_⟩
        conv => whnf
        refine ⟨by rfl, ?_⟩
        conv => whnf
        refine ⟨by rfl, ?_⟩
        conv => whnf
        exact trivial
      · intro x
        obtain ⟨hx1, hx2⟩ := x.2
        conv => whnf
        refine ⟨fun hb => ?_, fun hb => ?_⟩
        · have hb : x.1.1 < l.length := by simpa [hl] using hb
          conv => whnf
          refine LoopG.inv tab_ok 70 (fun y : { y : Nat × Wst // x.1.1 + 1 + y.1 ≤ l.length ∧ y.2 = wIn l x.1.1 (wOut l w0 x.1.1) y.1 } => [(0, .rs 3 (l.map smpR)), (5, .int .i64 y.1.2.a), (6, .int .i64 y.1.2.b), (7, .int .i64 y.1.2.m), (8, .int .i64 (x.1.1 : Int)), (9, .int .i64 ((x.1.1 + 1 + y.1.1 : Nat) : Int))])
            (fun _ => []) (fun y => l.length - y.1.1) ⟨(0, x.1.2), by show x.1.1 + 1 + 0 ≤ l.length; omega, hx2⟩ (.of [] (by decide) ?_) ?_
          · conv => whnf
            refine ⟨by rfl, ?_⟩
            conv => whnf
            refine ⟨by rfl, ?_⟩
            conv => whnf
            refine ⟨by rfl, ?_⟩
            conv => whnf
            refine ⟨by rfl, ?_⟩
            conv => whnf
            refine ⟨by rfl, ?_⟩
            conv => whnf
            refine ⟨by exact (w64 _ (by omega) (by omega)).trans (by simp), ?_⟩
            conv => whnf
            exact trivial
          · intro y
            obtain ⟨hy1, hy2⟩ := y.2
            conv => whnf
            refine ⟨fun hc => ?_, fun hc => ?_⟩
            · have hc : x.1.1 + 1 + y.1.1 < l.length := by rw [hl] at hc; simp only [decide_eq_true_eq] at hc; omega
              have ew := exD_w l x.1.1 (x.1.1 + 1 + y.1.1)
              have pn : ((x.1.1 + 1 + y.1.1 : Nat) : Int) + 1 = ((x.1.1 + 1 + (y.1.1 + 1) : Nat) : Int) := by omega
              have s1 : y.1.2.m < exD l x.1.1 (x.1.1 + 1 + y.1.1) → (⟨x.1.1, (x.1.1 + 1 + y.1.1 : Nat), exD l x.1.1 (x.1.1 + 1 + y.1.1)⟩ : Wst) = wIn l x.1.1 (wOut l w0 x.1.1) (y.1.1 + 1) := fun h => by simp only [wIn, wStep]; rw [← hy2, if_pos h]
              have s2 : ¬ y.1.2.m < exD l x.1.1 (x.1.1 + 1 + y.1.1) → y.1.2 = wIn l x.1.1 (wOut l w0 x.1.1) (y.1.1 + 1) := fun h => by simp only [wIn, wStep]; rw [← hy2, if_neg h]
              conv => whnf
              refine DrawG.of mixed tab_ok ?_
              conv => whnf
              refine ⟨by omega, ?_⟩
              conv => whnf
              refine ⟨_, gs_get hb, ?_⟩
              conv => whnf
              refine ⟨by omega, ?_⟩
              conv => whnf
              refine ⟨_, gs_get hc, ?_⟩
              conv => whnf
              refine (rgap_s _ _ _ _ _ _).calld ?_
              conv => whnf
              refine ⟨by kernel_rfl, ?_⟩
              conv => whnf
              refine DrawG.of mixed tab_ok ?_
              conv => whnf
              refine ⟨by omega, ?_⟩
              conv => whnf
              refine ⟨_, gs_get hb, ?_⟩
              conv => whnf
              refine ⟨by omega, ?_⟩
              conv => whnf
              refine ⟨_, gs_get hc, ?_⟩
              conv => whnf
              refine (rbound_s _ _ _ _ _ _).calld ?_
              conv => whnf
              refine ⟨by kernel_rfl, ?_⟩
              conv => whnf
              refine ⟨fun hh24 => ?_, fun hh24 => ?_⟩
              · simp only [decide_eq_true_eq, decide_eq_false_iff_not] at hh24
                conv => whnf
                refine ⟨⟨(y.1.1 + 1, ⟨x.1.1, (x.1.1 + 1 + y.1.1 : Nat), exD l x.1.1 (x.1.1 + 1 + y.1.1)⟩), by show x.1.1 + 1 + (y.1.1 + 1) ≤ l.length; omega, s1 (by rw [← ew]; assumption)⟩, by show l.length - (y.1.1 + 1) < l.length - y.1.1; omega, .of [] (by decide) ?_⟩
                conv => whnf
                refine ⟨by rfl, ?_⟩
                conv => whnf
                refine ⟨by rfl, ?_⟩
                conv => whnf
                refine ⟨by rfl, ?_⟩
                conv => whnf
                refine ⟨by omega, ?_⟩
                conv => whnf
                refine ⟨by rfl, ?_⟩
                conv => whnf
                refine ⟨by exact (w64 _ (by omega) (by omega)).trans (by omega), ?_⟩
                conv => whnf
                exact trivial
              · simp only [decide_eq_true_eq, decide_eq_false_iff_not] at hh24
                conv => whnf
                refine ⟨⟨(y.1.1 + 1, y.1.2), by show x.1.1 + 1 + (y.1.1 + 1) ≤ l.length; omega, s2 (by rw [← ew]; assumption)⟩, by show l.length - (y.1.1 + 1) < l.length - y.1.1; omega, .of [] (by decide) ?_⟩
                conv => whnf
                refine ⟨by rfl, ?_⟩
                conv => whnf
                refine ⟨by rfl, ?_⟩
                conv => whnf
                refine ⟨by rfl, ?_⟩
                conv => whnf
                refine ⟨by rfl, ?_⟩
                conv => whnf
                refine ⟨by rfl, ?_⟩
                conv => whnf
                refine ⟨by exact (w64 _ (by omega) (by omega)).trans (by omega), ?_⟩
                conv => whnf
                exact trivial
            · have hc : y.1.1 = l.length - (x.1.1 + 1) := by rw [hl] at hc; simp only [decide_eq_false_iff_not] at hc; omega
              conv => whnf
              refine .same ?_
              conv => whnf
              refine ⟨⟨(x.1.1 + 1, y.1.2), by show x.1.1 + 1 ≤ l.length; omega, by show y.1.2 = wIn l x.1.1 (wOut l w0 x.1.1) (l.length - (x.1.1 + 1)); rw [hy2, hc]⟩, by show l.length - (x.1.1 + 1) < l.length - x.1.1; omega, .of [] (by decide) ?_⟩
              conv => whnf
              refine ⟨by rfl, ?_⟩
              conv => whnf
              refine ⟨by rfl, ?_⟩
              conv => whnf
              refine ⟨by rfl, ?_⟩
              conv => whnf
              refine ⟨by rfl, ?_⟩
              conv => whnf
              refine ⟨by exact (w64 _ (by omega) (by omega)).trans (by simp), ?_⟩
              conv => whnf
              exact trivial
        · have hb : x.1.1 = l.length := by simp [hl] at hb; omega
          have e : x.1.2 = wOut l w0 l.length := by rw [hx2, hb]
          conv => whnf
          refine .same ?_
          conv => whnf
          (rw [e])
    · obtain ⟨y1, y2⟩ := ws_few hO h2
      rw [y1, y2]
      conv => whnf
      refine (rsamples_s _ (by first | omega | assumption | decide | simp)).call ?_
      rintro _ rfl
      conv => whnf
      refine both_f (by simp; omega) ?_
      conv => whnf
      refine both_t (by simp; omega) ?_
      conv => whnf
  · obtain ⟨y1, y2⟩ := ws_no hO
    have hB := (us_no 0 hO).2
    rw [y1, y2]
    conv => whnf
    refine (rsamples_s _ (by first | omega | assumption | decide | simp)).call ?_
    rintro _ rfl
    conv => whnf
    refine both_t (by simp; omega) ?_
    conv => whnf
theorem lworst_s (l : List (Int × Int × Int)) (hlen : l.length ≤ 1000000) : PSpec Try.prog 28 [.rs 3 (l.map smpR)] (· = .bool true) := by
  refine .of_code' tab_ok Try.func28 (by rfl) rfl trivial ?_
  conv => whnf
  refine (worst_s _ (by first | omega | assumption | decide | simp)).call ?_
  rintro _ rfl
  conv => whnf
  refine (rworst_s _ (by first | omega | assumption | decide | simp)).call ?_
  rintro _ rfl
  conv => whnf
  refine both_t (by simp) ?_
  conv => whnf
  refine both_t (by simp) ?_
  conv => whnf
  simp
theorem smp_app (l : List (Int × Int × Int)) (w b m : Int) : l.map smpR ++ [[SV.int .i64 w, .int .i64 b, .int .i64 m]] = (l ++ [(w, b, m)]).map smpR := by simp
theorem samples_s (ls : List Int) (at' n : Int) (h0 : 0 ≤ at') (h1 : at' < 9223372036854770000) (n0 : 0 ≤ n) (n1 : n ≤ 100) :
    OSpec Try.prog 29 [.ptr 0 0, .int .i64 n] [chs ls at'] fun s ho => ∃ (l : List (Int × Int × Int)) (a2 : Int), s = .rs 3 (l.map smpR) ∧ ho = [chs ls a2] ∧ (l.length : Int) ≤ n ∧ at' ≤ a2 ∧ a2 ≤ at' + 1 + 5 * n := by
  refine .of_code tab_ok Try.func29 (by rfl) rfl trivial ?_
  have k0 := nxt_lo ls at' (n + 1)
  have k1 := nxt_hi ls at' (n + 1) (by omega)
  have ew : IntKind.i64.wrap (n + 1) = n + 1 := w64 _ (by omega) (by omega)
  conv => whnf
  rw [ew]
  refine (next_s ls at' (n + 1) (by omega) (by omega) (by omega)).call [0] (by decide) (And.intro rfl trivial) (And.intro rfl trivial) ?_
  rintro _ _ ⟨rfl, rfl⟩
  conv => whnf
  refine LoopG.inv tab_ok 21 (fun x : { x : List (Int × Int × Int) × Nat × Int // (x.1.length : Int) + x.2.1 ≤ n ∧ at' ≤ x.2.2 ∧ x.2.2 + 5 * (x.2.1 : Int) ≤ at' + 1 + 5 * n } => [(0, .ptr 0 0), (5, .sl 1), (6, .int .i64 (x.1.2.1 : Int))])
    (fun x => [chs ls x.1.2.2, .row 41 3 (x.1.1.map smpR)]) (fun x => x.1.2.1) ⟨([], (nxt ls at' (n + 1)).toNat, at' + 1), by simp; omega⟩ (.of [some 0, none] (by rfl) ?_) ?_
  · conv => whnf
    refine ⟨by simp; omega, ?_⟩
    conv => whnf
    refine ⟨by rfl, ?_⟩
    conv => whnf
    refine ⟨by rfl, ?_⟩
    conv => whnf
    refine ⟨by rfl, ?_⟩
    conv => whnf
    exact trivial
  · intro x
    obtain ⟨hx1, hx2, hx3⟩ := x.2
    have sr := sma_rng ls x.1.2.2
    conv => whnf
    refine ⟨fun hb => ?_, fun hb => ?_⟩
    · have hb : (0 : Int) < (x.1.2.1 : Int) := by simpa using hb
      have e3 : IntKind.i64.wrap ((x.1.2.1 : Int) - 1) = ((x.1.2.1 - 1 : Nat) : Int) := by rw [w64 _ (by omega) (by omega)]; omega
      conv => whnf
      refine (samplex_s _ _ (by first | omega | assumption | decide | simp) (by first | omega | assumption | decide | simp)).call [0] (by decide) trivial (And.intro rfl trivial) ?_
      rintro _ _ ⟨rfl, rfl⟩
      conv => whnf
      refine ⟨by simp; omega, ?_⟩
      conv => whnf
      refine ⟨⟨(x.1.1 ++ [(smw ls x.1.2.2, smb ls x.1.2.2, smm ls x.1.2.2)], x.1.2.1 - 1, sma ls x.1.2.2), by simp; omega⟩, by show x.1.2.1 - 1 < x.1.2.1; omega, .of [some 0, some 3] (by rfl) ?_⟩
      conv => whnf
      refine ⟨by omega, ?_⟩
      conv => whnf
      refine ⟨by rfl, ?_⟩
      conv => whnf
      refine ⟨by rfl, ?_⟩
      conv => whnf
      refine ⟨by simp, ?_⟩
      conv => whnf
      exact trivial
    · conv => whnf
      refine .same ?_
      conv => whnf
      refine ⟨x.1.1, x.1.2.2, rfl, rfl, by omega, by omega, by omega⟩
theorem fairnessWorst_s (ls : List Int) (raw : List (Int × Int × Int)) : PSpec Try.prog 6 [.rs 1 (nums ls), .rs 3 (raw.map smpR)] TrueS := by
  refine .of_code' tab_ok Try.func6 (by rfl) rfl trivial ?_
  have hl : (raw.map smpR).length = raw.length := by simp
  conv => whnf
  refine CallG.of_code tab_ok Try.func15 (by rfl) rfl ?_
  conv => whnf
  refine LoopG.inv tab_ok 27 (fun x : { x : Nat × Int // x.1 ≤ 5 ∧ 0 ≤ x.2 ∧ x.2 ≤ 31 * x.1 } => [(1, .rs 3 (raw.map smpR)), (5, .ptr 0 0), (6, .int .i64 (x.1.1 : Int))])
    (fun x => [chs ls x.1.2]) (fun x => 5 - x.1.1) ⟨(0, 0), by decide⟩ (.of [some 0] (by rfl) ?_) ?_
  · conv => whnf
    refine ⟨by rfl, ?_⟩
    conv => whnf
    refine ⟨by rfl, ?_⟩
    conv => whnf
    refine ⟨by rfl, ?_⟩
    conv => whnf
    refine ⟨by rfl, ?_⟩
    conv => whnf
    exact trivial
  · intro x
    obtain ⟨hx1, hx2, hx3⟩ := x.2
    conv => whnf
    refine ⟨fun hb => ?_, fun hb => ?_⟩
    · have hb : (x.1.1 : Int) < 5 := by simpa using hb
      conv => whnf
      refine (samples_s ls x.1.2 6 hx2 (by omega) (by decide) (by decide)).call [0] (by decide) (And.intro rfl trivial) (And.intro rfl trivial) ?_
      rintro _ _ ⟨us, a2, rfl, rfl, hu1, hu2, hu3⟩
      conv => whnf
      refine (lworst_s _ (by first | omega | assumption | decide | simp)).call ?_
      rintro _ rfl
      conv => whnf
      refine both_f rfl ?_
      conv => whnf
      refine ⟨⟨(x.1.1 + 1, a2), by show x.1.1 + 1 ≤ 5; omega, by show 0 ≤ a2; omega, by show a2 ≤ 31 * ((x.1.1 + 1 : Nat) : Int); omega⟩, by show 5 - (x.1.1 + 1) < 5 - x.1.1; omega, .of [some 0] (by rfl) ?_⟩
      conv => whnf
      refine ⟨by rfl, ?_⟩
      conv => whnf
      refine ⟨by exact (w64 _ (by omega) (by omega)).trans (by simp), ?_⟩
      conv => whnf
      refine ⟨by rfl, ?_⟩
      conv => whnf
      refine ⟨by rfl, ?_⟩
      conv => whnf
      exact trivial
    · conv => whnf
      refine .same ?_
      conv => whnf
      refine ⟨fun hc => ?_, fun hc => ?_⟩
      · conv => whnf
        refine (awake14_s).call ?_
        rintro _ rfl
        conv => whnf
      · have hc : (raw.length : Int) ≤ 40 := by rw [hl] at hc; simpa using hc
        conv => whnf
        refine (lworst_s _ (by first | omega | assumption | decide | simp)).call ?_
        rintro _ rfl
        conv => whnf
        refine both_t rfl ?_
        conv => whnf
        refine (awake14_s).call ?_
        rintro _ rfl
        conv => whnf
end Go.Proofs.Ythlomoacacebeac

/- What the statements of chapter 3 draw; the example; splits; contract of SharesSplit. No statement of the seat is proved here. -/
import Derived.Test.YthlomoacacebeabParts
import Derived.Test.YthlomoacacebeabGenI
import Derived.Test.YthlomoacacebeabAux3
namespace Go.Proofs.Ythlomoacacebeab
open Go.Sx
set_option linter.unusedSimpArgs false
set_option linter.unusedVariables false
theorem nget {xs : List Int} {i : Nat} (h : i < xs.length) : (nums xs)[(i : Int).toNat]? = some [SV.int .i64 (xs.getD i 0)] := by
  rw [Int.toNat_natCast]; simp [nums, List.getElem?_map, List.getElem?_eq_getElem h, List.getD]
theorem eq64_s (xs : List Int) (hx : xs.length ≤ 1000000) : PSpec Try.prog 46 [.rs 1 (nums xs), .rs 1 (nums xs)] (· = .bool true) := by
  refine .of_code' tab_ok Try.func46 (by rfl) rfl trivial ?_
  have hl := nums_len xs
  conv => whnf
  refine both_f (by simp) ?_
  conv => whnf
  refine LoopG.inv tab_ok 26 (fun i : { i : Nat // i ≤ xs.length } => [(0, .rs 1 (nums xs)), (1, .rs 1 (nums xs)), (5, .int .i64 (i.1 : Int))])
    (fun _ => []) (fun i => xs.length - i.1) ⟨0, by omega⟩ (.of [] (by decide) ?_) ?_
  · conv => whnf
    refine ⟨by rfl, ?_⟩
    conv => whnf
    refine ⟨by rfl, ?_⟩
    conv => whnf
    refine ⟨by rfl, ?_⟩
    conv => whnf
    exact trivial
  · intro i
    have hi := i.2
    conv => whnf
    refine ⟨fun hb => ?_, fun hb => ?_⟩
    · have hb : i.1 < xs.length := by simpa [hl] using hb
      conv => whnf
      refine DrawG.of mixed tab_ok ?_
      conv => whnf
      refine ⟨by omega, ?_⟩
      conv => whnf
      refine ⟨_, nget hb, ?_⟩
      conv => whnf
      refine ⟨by omega, ?_⟩
      conv => whnf
      refine ⟨_, nget hb, ?_⟩
      conv => whnf
      refine ⟨by kernel_rfl, ?_⟩
      conv => whnf
      refine both_f (by simp) ?_
      conv => whnf
      refine ⟨⟨i.1 + 1, by omega⟩, by show xs.length - (i.1 + 1) < xs.length - i.1; omega, .of [] (by decide) ?_⟩
      conv => whnf
      refine ⟨by rfl, ?_⟩
      conv => whnf
      refine ⟨by rfl, ?_⟩
      conv => whnf
      refine ⟨by exact (w64 _ (by omega) (by omega)).trans (by simp), ?_⟩
      conv => whnf
      exact trivial
    · conv => whnf
      refine .same ?_
      conv => whnf
theorem split_s (a : Int) (ha : -9223372036854775808 ≤ a ∧ a ≤ 9223372036854775807) (l : List (Int × Int)) (hlen : l.length ≤ 1000000) :
    PSpec Try.prog 23 [.int .i64 a, .rs 2 (l.map ptR)] (· = .tup [.rs 1 (nums (spO a l)), .int .i64 (spe l)]) := PSpec.row2 (split_r a ha l hlen)
theorem rsplit_s (a : Int) (ha : -9223372036854775808 ≤ a ∧ a ≤ 9223372036854775807) (l : List (Int × Int)) (hlen : l.length ≤ 1000000) :
    PSpec Try.prog 72 [.int .i64 a, .rs 2 (l.map ptR)] (· = .tup [.rs 1 (nums (spO a l)), .int .i64 (spe l)]) := PSpec.row2 (rsplit_r a ha l hlen)
theorem spO_len (a : Int) (l : List (Int × Int)) : (spO a l).length ≤ l.length := by
  unfold spO; split <;> simp [tabL]
theorem split_aw : PSpec Try.prog 23 [.int .i64 10, .rs 2 [[.int .i64 0, .int .i64 1], [.int .i64 1, .int .i64 2]]] (· = .tup [.rs 1 (nums [4, 6]), .int .i64 0]) := by
  have hO : ptO [(0, 1), (1, 2)] := ⟨by decide, by
    intro i hi
    match i with
    | 0 => unfold ptI; decide
    | 1 => unfold ptI; decide
    | i + 2 => simp at hi; omega⟩
  have := split_s 10 (by decide) [(0, 1), (1, 2)] (by decide)
  obtain ⟨y1, y2⟩ := sp_yes 10 hO (by decide)
  rw [y1, y2, show tabL [((0 : Int), (1 : Int)), (1, 2)].length (spG 10 [(0, 1), (1, 2)]) [((0 : Int), (1 : Int)), (1, 2)].length = [4, 6] by decide] at this
  exact this
theorem awake3_s : PSpec Try.prog 19 [] (· = .bool true) := by
  refine .of_code' tab_ok Try.func19 (by rfl) rfl trivial ?_
  conv => whnf
  refine CallG.give 0 ?_
  conv => whnf
  refine split_aw.call ?_
  rintro _ rfl
  conv => whnf
  refine both_t rfl ?_
  conv => whnf
  refine CallG.give 1 ?_
  conv => whnf
  refine (eq64_s [4, 6] (by decide)).call ?_
  rintro _ rfl
  conv => whnf
theorem pt_app (l : List (Int × Int)) (w b : Int) : l.map ptR ++ [[SV.int .i64 w, .int .i64 b]] = (l ++ [(w, b)]).map ptR := by simp
/-- A list that is drawn: its ids from 0 up to a number, its weights in range. -/
def ptD (l : List (Int × Int)) (last : Int) : Prop := (∀ i, i < l.length → ptI l i ∧ (gp l i).1 ≤ last) ∧ -1 ≤ last
theorem gp_old {l : List (Int × Int)} {x : Int × Int} {i : Nat} (h : i < l.length) : gp (l ++ [x]) i = gp l i := by simp [gp, List.getD, List.getElem?_append_left h]
theorem gp_new {l : List (Int × Int)} {x : Int × Int} : gp (l ++ [x]) l.length = x := by simp [gp, List.getD]
theorem ptD_app {l : List (Int × Int)} {last id w : Int} (h : ptD l last) (hid : last < id) (hw : 1 ≤ w ∧ w ≤ 2147483648) : ptD (l ++ [(id, w)]) id := by
  refine ⟨fun i hi => ?_, by have := h.2; omega⟩
  simp at hi
  by_cases e : i < l.length
  · obtain ⟨⟨h1, h2⟩, h3⟩ := h.1 i e
    refine ⟨⟨?_, ?_⟩, ?_⟩
    · by_cases hz : i = 0
      · rw [if_pos hz, gp_old e]; rw [if_pos hz] at h1; exact h1
      · rw [if_neg hz, gp_old e, gp_old (by omega)]; rw [if_neg hz] at h1; exact h1
    · rw [gp_old e]; exact h2
    · rw [gp_old e]; omega
  · have e : i = l.length := by omega
    subst e
    refine ⟨⟨?_, ?_⟩, ?_⟩
    · by_cases hz : l.length = 0
      · rw [if_pos hz, gp_new]; have := h.2; show (-1 : Int) < id; omega
      · rw [if_neg hz, gp_new, gp_old (by omega)]
        have := (h.1 (l.length - 1) (by omega)).2
        show (gp l (l.length - 1)).1 < id; omega
    · rw [gp_new]; exact hw
    · rw [gp_new]; exact Int.le_refl _
theorem parts_s (ls : List Int) (at' n : Int) (h0 : 0 ≤ at') (h1 : at' < 9223372036854770000) (n0 : 0 ≤ n) (n1 : n ≤ 20) :
    OSpec Try.prog 18 [.ptr 0 0, .int .i64 n] [chs ls at'] fun s ho => ∃ (l : List (Int × Int)) (a2 : Int), s = .rs 2 (l.map ptR) ∧ ho = [chs ls a2] ∧ (l.length : Int) ≤ n ∧ at' ≤ a2 ∧ a2 ≤ at' + 1 + 4 * n ∧ ptD l (3 * n) := by
  refine .of_code tab_ok Try.func18 (by rfl) rfl trivial ?_
  have k0 := nxt_lo ls at' (n + 1)
  have k1 := nxt_hi ls at' (n + 1) (by omega)
  have ew : IntKind.i64.wrap (n + 1) = n + 1 := w64 _ (by omega) (by omega)
  conv => whnf
  rw [ew]
  refine (next_s ls at' (n + 1) (by omega) (by omega) (by omega)).call [0] (by decide) (And.intro rfl trivial) (And.intro rfl trivial) ?_
  rintro _ _ ⟨rfl, rfl⟩
  conv => whnf
  refine LoopG.inv tab_ok 39 (fun x : { x : List (Int × Int) × Nat × Int × Int // (x.1.length : Int) + x.2.1 ≤ n ∧ at' ≤ x.2.2.1 ∧ x.2.2.1 + 4 * (x.2.1 : Int) ≤ at' + 1 + 4 * n ∧ x.2.2.2 + 3 * (x.2.1 : Int) ≤ 3 * n - 1 ∧ ptD x.1 x.2.2.2 } => [(0, .ptr 0 0), (5, .sl 1), (6, .int .i64 x.1.2.2.2), (7, .int .i64 (x.1.2.1 : Int))])
    (fun x => [chs ls x.1.2.2.1, .row 33 2 (x.1.1.map ptR)]) (fun x => x.1.2.1) ⟨([], (nxt ls at' (n + 1)).toNat, at' + 1, -1), by simp; omega, by simp; omega, by simp; omega, by simp; omega, by intro i hi; simp at hi, by simp⟩ (.of [some 0, none] (by rfl) ?_) ?_
  · conv => whnf
    refine ⟨by rfl, ?_⟩
    conv => whnf
    refine ⟨by simp; omega, ?_⟩
    conv => whnf
    refine ⟨by rfl, ?_⟩
    conv => whnf
    refine ⟨by rfl, ?_⟩
    conv => whnf
    refine ⟨by rfl, ?_⟩
    conv => whnf
    exact trivial
  · intro x
    obtain ⟨hx1, hx2, hx3, hx4, hx5⟩ := x.2
    have hx6 := hx5.2
    have m0 := nxt_lo ls x.1.2.2.1 3
    have m1 := nxt_hi ls x.1.2.2.1 3 (by omega)
    have wr := wex_rng ls (x.1.2.2.1 + 1)
    conv => whnf
    refine ⟨fun hb => ?_, fun hb => ?_⟩
    · have hb : (0 : Int) < (x.1.2.1 : Int) := by simpa using hb
      have e3 : IntKind.i64.wrap ((x.1.2.1 : Int) - 1) = ((x.1.2.1 - 1 : Nat) : Int) := by rw [w64 _ (by omega) (by omega)]; omega
      have ei : IntKind.i64.wrap (x.1.2.2.2 + IntKind.i64.wrap (1 + nxt ls x.1.2.2.1 3)) = x.1.2.2.2 + (1 + nxt ls x.1.2.2.1 3) := by rw [w64 (1 + _) (by omega) (by omega), w64 _ (by omega) (by omega)]
      have hg : (1 : Int) ≤ [2147483648, 1048576, 2147483647].getD (nxt ls (x.1.2.2.1 + 1 + 1 + 1) 3).toNat 0 ∧ [2147483648, 1048576, 2147483647].getD (nxt ls (x.1.2.2.1 + 1 + 1 + 1) 3).toNat 0 ≤ (2147483648 : Int) := by
        have h0 := nxt_lo ls (x.1.2.2.1 + 1 + 1 + 1) 3
        have h1 := nxt_hi ls (x.1.2.2.1 + 1 + 1 + 1) 3 (by omega)
        have key : ∀ j : Nat, j < 3 → (1 : Int) ≤ [2147483648, 1048576, 2147483647].getD j 0 ∧ [2147483648, 1048576, 2147483647].getD j 0 ≤ (2147483648 : Int) := by decide
        exact key _ (by omega)
      conv => whnf
      refine (next_s _ _ _ (by first | omega | assumption | decide | simp) (by first | omega | assumption | decide | simp) (by first | omega | assumption | decide | simp)).call [0] (by decide) (And.intro rfl trivial) (And.intro rfl trivial) ?_
      rintro _ _ ⟨rfl, rfl⟩
      conv => whnf
      refine (weight_s _ _ (by first | omega | assumption | decide | simp) (by first | omega | assumption | decide | simp)).call [0] (by decide) trivial (And.intro rfl trivial) ?_
      rintro _ _ ⟨rfl, rfl⟩
      conv => whnf
      refine (next_s _ _ _ (by first | omega | assumption | decide | simp) (by first | omega | assumption | decide | simp) (by first | omega | assumption | decide | simp)).call [0] (by decide) (And.intro rfl trivial) (And.intro rfl trivial) ?_
      rintro _ _ ⟨rfl, rfl⟩
      conv => whnf
      refine ⟨fun hh30 => ?_, fun hh30 => ?_⟩
      · simp only [decide_eq_true_eq, decide_eq_false_iff_not] at hh30
        conv => whnf
        refine (next_s _ _ _ (by first | omega | assumption | decide | simp) (by first | omega | assumption | decide | simp) (by first | omega | assumption | decide | simp)).call [0] (by decide) (And.intro rfl trivial) (And.intro rfl trivial) ?_
        rintro _ _ ⟨rfl, rfl⟩
        conv => whnf
        refine ⟨by exact ⟨nxt_lo _ _ _, nxt_hi _ _ _ (by omega)⟩, ?_⟩
        conv => whnf
        refine ⟨_, lit_get (l := [2147483648, 1048576, 2147483647]) (nxt_lo _ _ _) (nxt_hi _ _ _ (by decide)), ?_⟩
        conv => whnf
        refine ⟨by simp; omega, ?_⟩
        conv => whnf
        refine (have q : nxt ls (x.1.2.2.1 + 1 + 1) 6 = 5 := (by assumption); ⟨⟨(x.1.1 ++ [(x.1.2.2.2 + (1 + nxt ls x.1.2.2.1 3), [2147483648, 1048576, 2147483647].getD (nxt ls (x.1.2.2.1 + 1 + 1 + 1) 3).toNat 0)], x.1.2.1 - 1, x.1.2.2.1 + 1 + 1 + 1 + 1, x.1.2.2.2 + (1 + nxt ls x.1.2.2.1 3)), by simp; omega, by simp; omega, by simp; omega, by simp; omega, ptD_app hx5 (by omega) hg⟩, by show x.1.2.1 - 1 < x.1.2.1; omega, .of [some 0, some 4] (by rfl) ?_⟩)
        conv => whnf
        refine ⟨by omega, ?_⟩
        conv => whnf
        refine ⟨by omega, ?_⟩
        conv => whnf
        refine ⟨by rfl, ?_⟩
        conv => whnf
        refine ⟨by rfl, ?_⟩
        conv => whnf
        refine ⟨by simp; omega, ?_⟩
        conv => whnf
        exact trivial
      · simp only [decide_eq_true_eq, decide_eq_false_iff_not] at hh30
        conv => whnf
        refine ⟨by simp; omega, ?_⟩
        conv => whnf
        refine (have q : ¬ nxt ls (x.1.2.2.1 + 1 + 1) 6 = 5 := (by assumption); ⟨⟨(x.1.1 ++ [(x.1.2.2.2 + (1 + nxt ls x.1.2.2.1 3), wex ls (x.1.2.2.1 + 1))], x.1.2.1 - 1, x.1.2.2.1 + 1 + 1 + 1, x.1.2.2.2 + (1 + nxt ls x.1.2.2.1 3)), by simp; omega, by simp; omega, by simp; omega, by simp; omega, ptD_app hx5 (by omega) (by omega)⟩, by show x.1.2.1 - 1 < x.1.2.1; omega, .of [some 0, some 3] (by rfl) ?_⟩)
        conv => whnf
        refine ⟨by omega, ?_⟩
        conv => whnf
        refine ⟨by omega, ?_⟩
        conv => whnf
        refine ⟨by rfl, ?_⟩
        conv => whnf
        refine ⟨by rfl, ?_⟩
        conv => whnf
        refine ⟨by simp; omega, ?_⟩
        conv => whnf
        exact trivial
    · conv => whnf
      refine .same ?_
      conv => whnf
      refine ⟨x.1.1, x.1.2.2.1, rfl, rfl, by omega, by omega, by omega, ⟨fun i hi => ⟨(hx5.1 i hi).1, by have := (hx5.1 i hi).2; omega⟩, by omega⟩⟩
end Go.Proofs.Ythlomoacacebeab

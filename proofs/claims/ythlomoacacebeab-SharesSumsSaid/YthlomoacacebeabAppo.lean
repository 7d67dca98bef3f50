/- Apportion of package shares and of its reference; contracts of SharesApportion and SharesEnvy. No statement of the seat is proved here. -/
import Derived.Test.YthlomoacacebeabShr3
import Derived.Test.YthlomoacacebeabWideCmp
namespace Go.Proofs.Ythlomoacacebeab
open Go.Sx
set_option linter.unusedSimpArgs false
set_option linter.unusedVariables false
theorem eqI_s (xs : List Int) (hx : xs.length ≤ 1000000) : PSpec Try.prog 45 [.rs 1 (nums xs), .rs 1 (nums xs)] (· = .bool true) := by
  refine .of_code' tab_ok Try.func45 (by rfl) rfl trivial ?_
  have hl := nums_len xs
  conv => whnf
  refine both_f (by simp) ?_
  conv => whnf
  refine LoopG.inv tab_ok 26 (fun i : { i : Nat // i ≤ xs.length } => [(0, .rs 1 (nums xs)), (1, .rs 1 (nums xs)), (5, .int .i64 (i.1 : Int))])
    (fun _ => []) (fun i => xs.length - i.1) ⟨0, by omega⟩ (.of [] (by decide) ?_) ?_
  · conv => whnf
    refine ⟨by rfl, ?_⟩
    conv => whnf
    refine ⟨by rfl, ?_⟩
    conv => whnf
    refine ⟨by rfl, ?_⟩
    conv => whnf
    exact trivial
  · intro i
    have hi := i.2
    conv => whnf
    refine ⟨fun hb => ?_, fun hb => ?_⟩
    · have hb : i.1 < xs.length := by simpa [hl] using hb
      conv => whnf
      refine DrawG.of mixed tab_ok ?_
      conv => whnf
      refine ⟨by omega, ?_⟩
      conv => whnf
      refine ⟨_, nget hb, ?_⟩
      conv => whnf
      refine ⟨by omega, ?_⟩
      conv => whnf
      refine ⟨_, nget hb, ?_⟩
      conv => whnf
      refine ⟨by kernel_rfl, ?_⟩
      conv => whnf
      refine both_f (by simp) ?_
      conv => whnf
      refine ⟨⟨i.1 + 1, by omega⟩, by show xs.length - (i.1 + 1) < xs.length - i.1; omega, .of [] (by decide) ?_⟩
      conv => whnf
      refine ⟨by rfl, ?_⟩
      conv => whnf
      refine ⟨by rfl, ?_⟩
      conv => whnf
      refine ⟨by exact (w64 _ (by omega) (by omega)).trans (by simp), ?_⟩
      conv => whnf
      exact trivial
    · conv => whnf
      refine .same ?_
      conv => whnf
abbrev gx (xs : List Int) (i : Nat) : Int := xs.getD i 0
/-- The part that gets the next unit, among the first i. -/
def apB (xs : List Int) (l : List (Int × Int)) : Nat → Nat
  | 0 => 0
  | i + 1 => if (gx xs i + 1) * (gp l (apB xs l i)).2 < (gx xs (apB xs l i) + 1) * (gp l i).2 then i else apB xs l i
def apS (xs : List Int) (l : List (Int × Int)) : List Int := xs.set (apB xs l l.length) (gx xs (apB xs l l.length) + 1)
def apN (l : List (Int × Int)) : Nat → List Int
  | 0 => List.replicate l.length 0
  | m + 1 => apS (apN l m) l
theorem apB_lt (xs : List Int) (l : List (Int × Int)) : ∀ i, 0 < i → apB xs l i < i := by
  intro i
  induction i with
  | zero => intro h; omega
  | succ i ih =>
    intro _
    simp only [apB]
    split
    · omega
    · rcases Nat.eq_zero_or_pos i with h | h
      · subst h; simp [apB]
      · have := ih h; omega
theorem apB_one (xs : List Int) (l : List (Int × Int)) : apB xs l 1 = 0 := by simp [apB]
theorem apN_len (l : List (Int × Int)) : ∀ m, (apN l m).length = l.length := by
  intro m
  induction m with
  | zero => simp [apN]
  | succ m ih => simp [apN, apS, ih]
theorem gx_set {xs : List Int} {j i : Nat} (h : j < xs.length) (v : Int) : gx (xs.set j v) i = if i = j then v else gx xs i := by
  unfold gx
  by_cases e : i = j
  · subst e; simp [List.getD, h]
  · rw [if_neg e]; simp [List.getD, List.getElem?_set, Ne.symm e]
theorem apN_rng {l : List (Int × Int)} (h0 : l.length ≠ 0) : ∀ m i, 0 ≤ gx (apN l m) i ∧ gx (apN l m) i ≤ m := by
  intro m
  induction m with
  | zero => intro i; simp only [apN, gx, List.getD]; by_cases h : i < l.length <;> simp [List.getElem?_replicate, h]
  | succ m ih =>
    intro i
    have hb := apB_lt (apN l m) l l.length (by omega)
    simp only [apN, apS]
    rw [gx_set (by rw [apN_len]; exact hb)]
    have := ih i
    have := ih (apB (apN l m) l l.length)
    split <;> omega
def apO (a : Int) (l : List (Int × Int)) : Prop := ptO l ∧ 0 ≤ a ∧ a ≤ 4096
open Classical in
noncomputable def apv (a : Int) (l : List (Int × Int)) : List Int := if apO a l ∧ l.length ≠ 0 then apN l a.toNat else []
open Classical in
noncomputable def ape (a : Int) (l : List (Int × Int)) : Int := if apO a l then (if l.length = 0 then 5 else 0) else 1
theorem ap_no {a : Int} {l : List (Int × Int)} (h : ¬ apO a l) : apv a l = [] ∧ ape a l = 1 := by simp [apv, ape, h]
theorem ap_nil {a : Int} {l : List (Int × Int)} (h : apO a l) (h0 : l.length = 0) : apv a l = [] ∧ ape a l = 5 := by simp [apv, ape, h, h0]
theorem ap_yes {a : Int} {l : List (Int × Int)} (h : apO a l) (h0 : l.length ≠ 0) : apv a l = apN l a.toNat ∧ ape a l = 0 := by simp [apv, ape, h, h0]
theorem nums_set (xs : List Int) (j : Nat) (v : Int) : (nums xs).set j [SV.int .i64 v] = nums (xs.set j v) := by simp [nums, List.map_set]
theorem nums_rep (n : Nat) : List.replicate n [SV.int .i64 0] = nums (List.replicate n 0) := by simp [nums]
theorem ap_mul {x w : Int} (x0 : 0 ≤ x) (x1 : x ≤ 4096) (w0 : 1 ≤ w) (w1 : w ≤ 2147483648) : IntKind.i64.wrap (x + 1) = x + 1 ∧ IntKind.i64.wrap ((x + 1) * w) = (x + 1) * w ∧ 0 ≤ (x + 1) * w ∧ (x + 1) * w < 18446744073709551616 := by
  have h0 : 0 ≤ (x + 1) * w := Int.mul_nonneg (by omega) (by omega)
  have h1 : (x + 1) * w ≤ 4097 * 2147483648 := Int.mul_le_mul (by omega) w1 (by omega) (by omega)
  exact ⟨w64 _ (by omega) (by omega), w64 _ (by omega) (by omega), h0, by omega⟩
theorem nb {x : Int} (h0 : 0 ≤ x) (h1 : x < 18446744073709551616) : IntKind.u64.wrap x = x := by rw [IntKind.wrap_u64]; omega
theorem cmp2_lt (x y : Int) : cmp2 x y < 0 ↔ x < y := by unfold cmp2; (repeat' split) <;> omega
theorem apportion_r (a : Int) (l : List (Int × Int)) (hlen : l.length ≤ 1000000) :
    PSpec Try.prog 21 [.int .i64 a, .rs 2 (l.map ptR)] fun s => ∃ x, s = .tup [x, .int .i64 (ape a l)] ∧ RowIs 1 (nums (apv a l)) x := by
  refine .of_codeF tab_ok Try.func21 (by rfl) rfl trivial ?_
  have hl : (l.map ptR).length = l.length := by simp
  by_cases hO : apO a l
  · have hB := ptB_yes hO.1
    have h64 := hO.1.1
    have a0 := hO.2.1
    have a1 := hO.2.2
    by_cases h0 : l.length = 0
    · obtain ⟨y1, y2⟩ := ap_nil hO h0
      conv => whnf
      refine (svalid_s _ (by first | omega | assumption | decide | simp)).call ?_
      rintro _ rfl
      conv => whnf
      refine both_f (by simp; omega) ?_
      conv => whnf
      refine both_f (by simp; omega) ?_
      conv => whnf
      refine both_f (by simp; omega) ?_
      conv => whnf
      refine both_t (by simp [*]) ?_
      conv => whnf
      refine ⟨.nils, by rw [y2], .inr ⟨rfl, by rw [y1]; rfl⟩⟩
    · obtain ⟨y1, y2⟩ := ap_yes hO h0
      conv => whnf
      refine (svalid_s _ (by first | omega | assumption | decide | simp)).call ?_
      rintro _ rfl
      conv => whnf
      refine both_f (by rw [hB]; rfl) ?_
      conv => whnf
      refine both_f (by exact decide_eq_false (by omega)) ?_
      conv => whnf
      refine both_f (by exact decide_eq_false (by omega)) ?_
      conv => whnf
      refine both_f (by rw [hl]; exact decide_eq_false (by omega)) ?_
      conv => whnf
      refine ⟨by simp; omega, ?_⟩
      conv => whnf
      refine LoopG.inv tab_ok 69 (fun m : { m : Nat // (m : Int) ≤ a } => [(1, .rs 2 (l.map ptR)), (6, .sl 0), (28, .int .i64 a), (29, .int .i64 (m.1 : Int))])
        (fun m => [.row 3 1 (nums (apN l m.1))]) (fun m => a.toNat - m.1) ⟨0, by omega⟩ (.of [some 0] (by rfl) ?_) ?_
      · conv => whnf
        refine ⟨by rfl, ?_⟩
        conv => whnf
        refine ⟨by rfl, ?_⟩
        conv => whnf
        refine ⟨by rfl, ?_⟩
        conv => whnf
        refine ⟨by (rw [hl, Int.toNat_natCast, nums_rep]; rfl), ?_⟩
        conv => whnf
        exact trivial
      · intro m
        have hm := m.2
        have xl := apN_len l m.1
        have xr := apN_rng h0 m.1
        have nl := nums_len (apN l m.1)
        conv => whnf
        refine ⟨fun hb => ?_, fun hb => ?_⟩
        · have hb : (m.1 : Int) < a := by simpa using hb
          conv => whnf
          refine LoopG.inv tab_ok 69 (fun i : { i : Nat // i ≤ l.length } => [(1, .rs 2 (l.map ptR)), (6, .sl 0), (7, .int .i64 (apB (apN l m.1) l i.1 : Int)), (28, .int .i64 a), (29, .int .i64 (m.1 : Int)), (32, .int .i64 ((l.map ptR).length : Int)), (33, .int .i64 (i.1 : Int))])
            (fun i => [.row 3 1 (nums (apN l m.1))]) (fun i => l.length - i.1) ⟨0, by omega⟩ (.of [some 0] (by rfl) ?_) ?_
          · conv => whnf
            refine ⟨by rfl, ?_⟩
            conv => whnf
            refine ⟨by rfl, ?_⟩
            conv => whnf
            refine ⟨by rfl, ?_⟩
            conv => whnf
            refine ⟨by rfl, ?_⟩
            conv => whnf
            refine ⟨by rfl, ?_⟩
            conv => whnf
            refine ⟨by rfl, ?_⟩
            conv => whnf
            refine ⟨by rfl, ?_⟩
            conv => whnf
            exact trivial
          · intro i
            have hi := i.2
            conv => whnf
            refine ⟨fun hc => ?_, fun hc => ?_⟩
            · have hc : i.1 < l.length := by simpa [hl] using hc
              have hk : apB (apN l m.1) l i.1 < l.length := by
                rcases Nat.eq_zero_or_pos i.1 with h | h
                · rw [h]; simp [apB]; omega
                · have := apB_lt (apN l m.1) l i.1 h; omega
              obtain ⟨m1, m2, m3, m4⟩ := ap_mul (xr i.1).1 (by have := (xr i.1).2; omega) (hO.1.2 _ hk).2.1 (hO.1.2 _ hk).2.2
              obtain ⟨n1, n2, n3, n4⟩ := ap_mul (xr (apB (apN l m.1) l i.1)).1 (by have := (xr (apB (apN l m.1) l i.1)).2; omega) (hO.1.2 _ hc).2.1 (hO.1.2 _ hc).2.2
              have st1 : IntKind.i64.wrap (IntKind.i64.wrap (gx (apN l m.1) i.1 + 1) * (gp l (apB (apN l m.1) l i.1)).2) < IntKind.i64.wrap (IntKind.i64.wrap (gx (apN l m.1) (apB (apN l m.1) l i.1) + 1) * (gp l i.1).2) → (i.1 : Int) = (apB (apN l m.1) l (i.1 + 1) : Int) := fun h => by
                rw [m1, m2, n1, n2] at h; simp only [apB]; rw [if_pos h]
              have st2 : ¬ IntKind.i64.wrap (IntKind.i64.wrap (gx (apN l m.1) i.1 + 1) * (gp l (apB (apN l m.1) l i.1)).2) < IntKind.i64.wrap (IntKind.i64.wrap (gx (apN l m.1) (apB (apN l m.1) l i.1) + 1) * (gp l i.1).2) → (apB (apN l m.1) l i.1 : Int) = (apB (apN l m.1) l (i.1 + 1) : Int) := fun h => by
                rw [m1, m2, n1, n2] at h; simp only [apB]; rw [if_neg h]
              conv => whnf
              refine DrawG.of mixed tab_ok ?_
              conv => whnf
              refine ⟨by omega, ?_⟩
              conv => whnf
              refine ⟨_, nget (xs := apN l m.1) (i := i.1) (by omega), ?_⟩
              conv => whnf
              refine ⟨by omega, ?_⟩
              conv => whnf
              refine ⟨_, gp_get hk, ?_⟩
              conv => whnf
              refine ⟨by omega, ?_⟩
              conv => whnf
              refine ⟨_, nget (xs := apN l m.1) (i := apB (apN l m.1) l i.1) (by omega), ?_⟩
              conv => whnf
              refine ⟨by omega, ?_⟩
              conv => whnf
              refine ⟨_, gp_get hc, ?_⟩
              conv => whnf
              refine ⟨by kernel_rfl, ?_⟩
              conv => whnf
              refine ⟨fun hh4 => ?_, fun hh4 => ?_⟩
              · simp only [decide_eq_true_eq, decide_eq_false_iff_not] at hh4
                conv => whnf
                refine ⟨⟨i.1 + 1, by omega⟩, by show l.length - (i.1 + 1) < l.length - i.1; omega, .of [some 0] (by rfl) ?_⟩
                conv => whnf
                refine ⟨by rfl, ?_⟩
                conv => whnf
                refine ⟨by exact st1 (by assumption), ?_⟩
                conv => whnf
                refine ⟨by rfl, ?_⟩
                conv => whnf
                refine ⟨by rfl, ?_⟩
                conv => whnf
                refine ⟨by rfl, ?_⟩
                conv => whnf
                refine ⟨by exact (w64 _ (by omega) (by omega)).trans (by simp), ?_⟩
                conv => whnf
                refine ⟨by rfl, ?_⟩
                conv => whnf
                exact trivial
              · simp only [decide_eq_true_eq, decide_eq_false_iff_not] at hh4
                conv => whnf
                refine ⟨⟨i.1 + 1, by omega⟩, by show l.length - (i.1 + 1) < l.length - i.1; omega, .of [some 0] (by rfl) ?_⟩
                conv => whnf
                refine ⟨by rfl, ?_⟩
                conv => whnf
                refine ⟨by exact st2 (by assumption), ?_⟩
                conv => whnf
                refine ⟨by rfl, ?_⟩
                conv => whnf
                refine ⟨by rfl, ?_⟩
                conv => whnf
                refine ⟨by rfl, ?_⟩
                conv => whnf
                refine ⟨by exact (w64 _ (by omega) (by omega)).trans (by simp), ?_⟩
                conv => whnf
                refine ⟨by rfl, ?_⟩
                conv => whnf
                exact trivial
            · have hc : i.1 = l.length := by simp [hl] at hc; omega
              have hk : apB (apN l m.1) l l.length < l.length := apB_lt _ _ _ (by omega)
              have xb := xr (apB (apN l m.1) l l.length)
              have ew : IntKind.i64.wrap (gx (apN l m.1) (apB (apN l m.1) l l.length) + 1) = gx (apN l m.1) (apB (apN l m.1) l l.length) + 1 := w64 _ (by omega) (by omega)
              rw [hc]
              conv => whnf
              refine .same ?_
              conv => whnf
              refine ⟨by omega, ?_⟩
              conv => whnf
              refine ⟨_, nget (xs := apN l m.1) (i := apB (apN l m.1) l l.length) (by omega), ?_⟩
              conv => whnf
              refine ⟨by omega, ?_⟩
              conv => whnf
              refine ⟨_, nget (xs := apN l m.1) (i := apB (apN l m.1) l l.length) (by omega), ?_⟩
              conv => whnf
              refine ⟨⟨m.1 + 1, by omega⟩, by show a.toNat - (m.1 + 1) < a.toNat - m.1; omega, .of [some 0] (by rfl) ?_⟩
              conv => whnf
              refine ⟨by rfl, ?_⟩
              conv => whnf
              refine ⟨by rfl, ?_⟩
              conv => whnf
              refine ⟨by exact (w64 _ (by omega) (by omega)).trans (by simp), ?_⟩
              conv => whnf
              refine ⟨by (rw [ew, Int.toNat_natCast, nums_set]; rfl), ?_⟩
              conv => whnf
              exact trivial
        · have hb : m.1 = a.toNat := by simp at hb; omega
          conv => whnf
          refine .same ?_
          conv => whnf
          refine ⟨_, by rw [y2], .inl (by rw [y1, hb])⟩
  · obtain ⟨y1, y2⟩ := ap_no hO
    have h' : ptB l = true → 0 ≤ a → a ≤ 4096 → False := fun p q r => hO ⟨by simpa [ptB] using p, q, r⟩
    conv => whnf
    refine (svalid_s _ (by first | omega | assumption | decide | simp)).call ?_
    rintro _ rfl
    conv => whnf
    refine ⟨fun hh10 => ?_, fun hh10 => ?_⟩
    · simp only [decide_eq_true_eq, decide_eq_false_iff_not, Bool.not_eq_true, Bool.not_eq_false, Bool.not_eq_true', Bool.not_eq_false', Bool.and_eq_true, Bool.and_eq_false_iff, Int.not_lt, Int.not_le, Decidable.not_not, beq_iff_eq, Bool.not_eq_eq_eq_not, Bool.not_true, Bool.not_false, beq_eq_false_iff_ne, ne_eq, decide_eq_decide] at hh10
      conv => whnf
      refine ⟨.nils, by rw [y2], .inr ⟨rfl, by rw [y1]; rfl⟩⟩
    · simp only [decide_eq_true_eq, decide_eq_false_iff_not, Bool.not_eq_true, Bool.not_eq_false, Bool.not_eq_true', Bool.not_eq_false', Bool.and_eq_true, Bool.and_eq_false_iff, Int.not_lt, Int.not_le, Decidable.not_not, beq_iff_eq, Bool.not_eq_eq_eq_not, Bool.not_true, Bool.not_false, beq_eq_false_iff_ne, ne_eq, decide_eq_decide] at hh10
      conv => whnf
      refine ⟨fun hh12 => ?_, fun hh12 => ?_⟩
      · simp only [decide_eq_true_eq, decide_eq_false_iff_not] at hh12
        conv => whnf
        refine ⟨.nils, by rw [y2], .inr ⟨rfl, by rw [y1]; rfl⟩⟩
      · simp only [decide_eq_true_eq, decide_eq_false_iff_not] at hh12
        conv => whnf
        refine ⟨fun hh14 => ?_, fun hh14 => ?_⟩
        · simp only [decide_eq_true_eq, decide_eq_false_iff_not] at hh14
          conv => whnf
          refine ⟨.nils, by rw [y2], .inr ⟨rfl, by rw [y1]; rfl⟩⟩
        · simp only [decide_eq_true_eq, decide_eq_false_iff_not] at hh14
          conv => whnf
          refine ⟨fun hh16 => ?_, fun hh16 => ?_⟩
          · simp only [decide_eq_true_eq, decide_eq_false_iff_not] at hh16
            conv => whnf
            refine (h' (by simp_all) (by omega) (by omega)).elim
          · simp only [decide_eq_true_eq, decide_eq_false_iff_not] at hh16
            conv => whnf
            refine ⟨by simp; omega, ?_⟩
            conv => whnf
            exact (h' (by simp_all) (by omega) (by omega)).elim
theorem rapportion_r (a : Int) (l : List (Int × Int)) (hlen : l.length ≤ 1000000) :
    PSpec Try.prog 44 [.int .i64 a, .rs 2 (l.map ptR)] fun s => ∃ x, s = .tup [x, .int .i64 (ape a l)] ∧ RowIs 1 (nums (apv a l)) x := by
  refine .of_codeF tab_ok Try.func44 (by rfl) rfl trivial ?_
  have hl : (l.map ptR).length = l.length := by simp
  by_cases hO : apO a l
  · have hB := ptB_yes hO.1
    have h64 := hO.1.1
    have a0 := hO.2.1
    have a1 := hO.2.2
    by_cases h0 : l.length = 0
    · obtain ⟨y1, y2⟩ := ap_nil hO h0
      conv => whnf
      refine (rvalidParts_s _ (by first | omega | assumption | decide | simp)).call ?_
      rintro _ rfl
      conv => whnf
      refine both_f (by simp; omega) ?_
      conv => whnf
      refine both_f (by simp; omega) ?_
      conv => whnf
      refine both_f (by simp; omega) ?_
      conv => whnf
      refine both_t (by simp [*]) ?_
      conv => whnf
      refine ⟨.nils, by rw [y2], .inr ⟨rfl, by rw [y1]; rfl⟩⟩
    · obtain ⟨y1, y2⟩ := ap_yes hO h0
      conv => whnf
      refine (rvalidParts_s _ (by first | omega | assumption | decide | simp)).call ?_
      rintro _ rfl
      conv => whnf
      refine both_f (by rw [hB]; rfl) ?_
      conv => whnf
      refine both_f (by exact decide_eq_false (by omega)) ?_
      conv => whnf
      refine both_f (by exact decide_eq_false (by omega)) ?_
      conv => whnf
      refine both_f (by rw [hl]; exact decide_eq_false (by omega)) ?_
      conv => whnf
      refine ⟨by simp; omega, ?_⟩
      conv => whnf
      refine LoopG.inv tab_ok 72 (fun m : { m : Nat // (m : Int) ≤ a } => [(0, .int .i64 a), (1, .rs 2 (l.map ptR)), (6, .sl 0), (7, .int .i64 (m.1 : Int))])
        (fun m => [.row 3 1 (nums (apN l m.1))]) (fun m => a.toNat - m.1) ⟨0, by omega⟩ (.of [some 0] (by rfl) ?_) ?_
      · conv => whnf
        refine ⟨by rfl, ?_⟩
        conv => whnf
        refine ⟨by rfl, ?_⟩
        conv => whnf
        refine ⟨by rfl, ?_⟩
        conv => whnf
        refine ⟨by (rw [hl, Int.toNat_natCast, nums_rep]; rfl), ?_⟩
        conv => whnf
        exact trivial
      · intro m
        have hm := m.2
        have xl := apN_len l m.1
        have xr := apN_rng h0 m.1
        have nl := nums_len (apN l m.1)
        conv => whnf
        refine ⟨fun hb => ?_, fun hb => ?_⟩
        · have hb : (m.1 : Int) < a := by simpa using hb
          have b1 := apB_one (apN l m.1) l
          conv => whnf
          refine LoopG.inv tab_ok 72 (fun i : { i : Nat // 1 ≤ i ∧ i ≤ l.length } => [(0, .int .i64 a), (1, .rs 2 (l.map ptR)), (6, .sl 0), (7, .int .i64 (m.1 : Int)), (8, .int .i64 (apB (apN l m.1) l i.1 : Int)), (9, .int .i64 (i.1 : Int))])
            (fun i => [.row 3 1 (nums (apN l m.1))]) (fun i => l.length - i.1) ⟨1, by omega⟩ (.of [some 0] (by rfl) ?_) ?_
          · conv => whnf
            refine ⟨by rfl, ?_⟩
            conv => whnf
            refine ⟨by rfl, ?_⟩
            conv => whnf
            refine ⟨by rfl, ?_⟩
            conv => whnf
            refine ⟨by simp; omega, ?_⟩
            conv => whnf
            refine ⟨by rfl, ?_⟩
            conv => whnf
            refine ⟨by rfl, ?_⟩
            conv => whnf
            exact trivial
          · intro i
            obtain ⟨hi0, hi⟩ := i.2
            conv => whnf
            refine ⟨fun hc => ?_, fun hc => ?_⟩
            · have hc : i.1 < l.length := by simpa [hl] using hc
              have hk : apB (apN l m.1) l i.1 < l.length := by have := apB_lt (apN l m.1) l i.1 hi0; omega
              obtain ⟨m1, m2, m3, m4⟩ := ap_mul (xr i.1).1 (by have := (xr i.1).2; omega) (hO.1.2 _ hk).2.1 (hO.1.2 _ hk).2.2
              obtain ⟨n1, n2, n3, n4⟩ := ap_mul (xr (apB (apN l m.1) l i.1)).1 (by have := (xr (apB (apN l m.1) l i.1)).2; omega) (hO.1.2 _ hc).2.1 (hO.1.2 _ hc).2.2
              have pk := (hO.1.2 _ hk).2
              have pc := (hO.1.2 _ hc).2
              have g1 := xr i.1
              have g2 := xr (apB (apN l m.1) l i.1)
              have u1 : IntKind.u64.wrap (IntKind.i64.wrap (gx (apN l m.1) i.1 + 1)) = gx (apN l m.1) i.1 + 1 := by rw [m1]; exact nb (by omega) (by omega)
              have u2 : IntKind.u64.wrap (IntKind.i64.wrap (gx (apN l m.1) (apB (apN l m.1) l i.1) + 1)) = gx (apN l m.1) (apB (apN l m.1) l i.1) + 1 := by rw [n1]; exact nb (by omega) (by omega)
              have u3 : IntKind.u64.wrap (gp l (apB (apN l m.1) l i.1)).2 = (gp l (apB (apN l m.1) l i.1)).2 := nb (by omega) (by omega)
              have u4 : IntKind.u64.wrap (gp l i.1).2 = (gp l i.1).2 := nb (by omega) (by omega)
              have st1 : cmp2 (IntKind.u64.wrap (IntKind.i64.wrap (gx (apN l m.1) i.1 + 1)) * IntKind.u64.wrap (gp l (apB (apN l m.1) l i.1)).2) (IntKind.u64.wrap (IntKind.i64.wrap (gx (apN l m.1) (apB (apN l m.1) l i.1) + 1)) * IntKind.u64.wrap (gp l i.1).2) < 0 → (i.1 : Int) = (apB (apN l m.1) l (i.1 + 1) : Int) := fun h => by
                rw [u1, u2, u3, u4, cmp2_lt] at h; simp only [apB]; rw [if_pos h]
              have st2 : ¬ cmp2 (IntKind.u64.wrap (IntKind.i64.wrap (gx (apN l m.1) i.1 + 1)) * IntKind.u64.wrap (gp l (apB (apN l m.1) l i.1)).2) (IntKind.u64.wrap (IntKind.i64.wrap (gx (apN l m.1) (apB (apN l m.1) l i.1) + 1)) * IntKind.u64.wrap (gp l i.1).2) < 0 → (apB (apN l m.1) l i.1 : Int) = (apB (apN l m.1) l (i.1 + 1) : Int) := fun h => by
                rw [u1, u2, u3, u4, cmp2_lt] at h; simp only [apB]; rw [if_neg h]
              conv => whnf
              refine DrawG.of mixed tab_ok ?_
              conv => whnf
              refine ⟨by omega, ?_⟩
              conv => whnf
              refine ⟨_, nget (xs := apN l m.1) (i := i.1) (by omega), ?_⟩
              conv => whnf
              refine ⟨by omega, ?_⟩
              conv => whnf
              refine ⟨_, gp_get hk, ?_⟩
              conv => whnf
              refine ⟨by omega, ?_⟩
              conv => whnf
              refine ⟨_, nget (xs := apN l m.1) (i := apB (apN l m.1) l i.1) (by omega), ?_⟩
              conv => whnf
              refine ⟨by omega, ?_⟩
              conv => whnf
              refine ⟨_, gp_get hc, ?_⟩
              conv => whnf
              refine (rcross_s _ _ _ _ (by first | omega | (rw [u1]; omega) | (rw [u2]; omega) | (rw [u3]; omega) | (rw [u4]; omega) | assumption | decide | simp) (by first | omega | (rw [u1]; omega) | (rw [u2]; omega) | (rw [u3]; omega) | (rw [u4]; omega) | assumption | decide | simp) (by first | omega | (rw [u1]; omega) | (rw [u2]; omega) | (rw [u3]; omega) | (rw [u4]; omega) | assumption | decide | simp) (by first | omega | (rw [u1]; omega) | (rw [u2]; omega) | (rw [u3]; omega) | (rw [u4]; omega) | assumption | decide | simp)).calld ?_
              conv => whnf
              refine ⟨by kernel_rfl, ?_⟩
              conv => whnf
              refine ⟨fun hh14 => ?_, fun hh14 => ?_⟩
              · simp only [decide_eq_true_eq, decide_eq_false_iff_not] at hh14
                conv => whnf
                refine ⟨⟨i.1 + 1, by omega⟩, by show l.length - (i.1 + 1) < l.length - i.1; omega, .of [some 0] (by rfl) ?_⟩
                conv => whnf
                refine ⟨by rfl, ?_⟩
                conv => whnf
                refine ⟨by rfl, ?_⟩
                conv => whnf
                refine ⟨by rfl, ?_⟩
                conv => whnf
                refine ⟨by exact st1 (by assumption), ?_⟩
                conv => whnf
                refine ⟨by exact (w64 _ (by omega) (by omega)).trans (by simp), ?_⟩
                conv => whnf
                refine ⟨by rfl, ?_⟩
                conv => whnf
                exact trivial
              · simp only [decide_eq_true_eq, decide_eq_false_iff_not] at hh14
                conv => whnf
                refine ⟨⟨i.1 + 1, by omega⟩, by show l.length - (i.1 + 1) < l.length - i.1; omega, .of [some 0] (by rfl) ?_⟩
                conv => whnf
                refine ⟨by rfl, ?_⟩
                conv => whnf
                refine ⟨by rfl, ?_⟩
                conv => whnf
                refine ⟨by rfl, ?_⟩
                conv => whnf
                refine ⟨by exact st2 (by assumption), ?_⟩
                conv => whnf
                refine ⟨by exact (w64 _ (by omega) (by omega)).trans (by simp), ?_⟩
                conv => whnf
                refine ⟨by rfl, ?_⟩
                conv => whnf
                exact trivial
            · have hc : i.1 = l.length := by simp [hl] at hc; omega
              have hk : apB (apN l m.1) l l.length < l.length := apB_lt _ _ _ (by omega)
              have xb := xr (apB (apN l m.1) l l.length)
              have ew : IntKind.i64.wrap (gx (apN l m.1) (apB (apN l m.1) l l.length) + 1) = gx (apN l m.1) (apB (apN l m.1) l l.length) + 1 := w64 _ (by omega) (by omega)
              rw [hc]
              conv => whnf
              refine .same ?_
              conv => whnf
              refine ⟨by omega, ?_⟩
              conv => whnf
              refine ⟨_, nget (xs := apN l m.1) (i := apB (apN l m.1) l l.length) (by omega), ?_⟩
              conv => whnf
              refine ⟨by omega, ?_⟩
              conv => whnf
              refine ⟨_, nget (xs := apN l m.1) (i := apB (apN l m.1) l l.length) (by omega), ?_⟩
              conv => whnf
              refine ⟨⟨m.1 + 1, by omega⟩, by show a.toNat - (m.1 + 1) < a.toNat - m.1; omega, .of [some 0] (by rfl) ?_⟩
              conv => whnf
              refine ⟨by rfl, ?_⟩
              conv => whnf
              refine ⟨by rfl, ?_⟩
              conv => whnf
              refine ⟨by exact (w64 _ (by omega) (by omega)).trans (by simp), ?_⟩
              conv => whnf
              refine ⟨by (rw [ew, Int.toNat_natCast, nums_set]; rfl), ?_⟩
              conv => whnf
              exact trivial
        · have hb : m.1 = a.toNat := by simp at hb; omega
          conv => whnf
          refine .same ?_
          conv => whnf
          refine ⟨_, by rw [y2], .inl (by rw [y1, hb])⟩
  · obtain ⟨y1, y2⟩ := ap_no hO
    have h' : ptB l = true → 0 ≤ a → a ≤ 4096 → False := fun p q r => hO ⟨by simpa [ptB] using p, q, r⟩
    conv => whnf
    refine (rvalidParts_s _ (by first | omega | assumption | decide | simp)).call ?_
    rintro _ rfl
    conv => whnf
    refine ⟨fun hh10 => ?_, fun hh10 => ?_⟩
    · simp only [decide_eq_true_eq, decide_eq_false_iff_not, Bool.not_eq_true, Bool.not_eq_false, Bool.not_eq_true', Bool.not_eq_false', Bool.and_eq_true, Bool.and_eq_false_iff, Int.not_lt, Int.not_le, Decidable.not_not, beq_iff_eq, Bool.not_eq_eq_eq_not, Bool.not_true, Bool.not_false, beq_eq_false_iff_ne, ne_eq, decide_eq_decide] at hh10
      conv => whnf
      refine ⟨.nils, by rw [y2], .inr ⟨rfl, by rw [y1]; rfl⟩⟩
    · simp only [decide_eq_true_eq, decide_eq_false_iff_not, Bool.not_eq_true, Bool.not_eq_false, Bool.not_eq_true', Bool.not_eq_false', Bool.and_eq_true, Bool.and_eq_false_iff, Int.not_lt, Int.not_le, Decidable.not_not, beq_iff_eq, Bool.not_eq_eq_eq_not, Bool.not_true, Bool.not_false, beq_eq_false_iff_ne, ne_eq, decide_eq_decide] at hh10
      conv => whnf
      refine ⟨fun hh12 => ?_, fun hh12 => ?_⟩
      · simp only [decide_eq_true_eq, decide_eq_false_iff_not] at hh12
        conv => whnf
        refine ⟨.nils, by rw [y2], .inr ⟨rfl, by rw [y1]; rfl⟩⟩
      · simp only [decide_eq_true_eq, decide_eq_false_iff_not] at hh12
        conv => whnf
        refine ⟨fun hh14 => ?_, fun hh14 => ?_⟩
        · simp only [decide_eq_true_eq, decide_eq_false_iff_not] at hh14
          conv => whnf
          refine ⟨.nils, by rw [y2], .inr ⟨rfl, by rw [y1]; rfl⟩⟩
        · simp only [decide_eq_true_eq, decide_eq_false_iff_not] at hh14
          conv => whnf
          refine ⟨fun hh16 => ?_, fun hh16 => ?_⟩
          · simp only [decide_eq_true_eq, decide_eq_false_iff_not] at hh16
            conv => whnf
            refine (h' (by simp_all) (by omega) (by omega)).elim
          · simp only [decide_eq_true_eq, decide_eq_false_iff_not] at hh16
            conv => whnf
            refine ⟨by simp; omega, ?_⟩
            conv => whnf
            exact (h' (by simp_all) (by omega) (by omega)).elim
theorem apv_len (a : Int) (l : List (Int × Int)) : (apv a l).length ≤ l.length := by
  unfold apv; split
  · rw [apN_len]; exact Nat.le_refl _
  · simp
theorem apportions_s (a : Int) (l : List (Int × Int)) (hlen : l.length ≤ 1000000) :
    PSpec Try.prog 16 [.int .i64 a, .rs 2 (l.map ptR)] (· = .bool true) := by
  refine .of_code' tab_ok Try.func16 (by rfl) rfl trivial ?_
  have hs : (apv a l).length ≤ 1000000 := by have := apv_len a l; omega
  have s1 := PSpec.row2 (apportion_r a l hlen)
  have s2 := PSpec.row2 (rapportion_r a l hlen)
  conv => whnf
  refine s1.call ?_
  rintro _ rfl
  conv => whnf
  refine s2.call ?_
  rintro _ rfl
  conv => whnf
  refine both_t (by simp) ?_
  conv => whnf
  refine (eqI_s _ (by first | omega | assumption | decide | simp)).call ?_
  rintro _ rfl
  conv => whnf
theorem sharesApportion_s (ls : List Int) (a : Int) (raw : List (Int × Int)) : PSpec Try.prog 3 [.rs 1 (nums ls), .int .i64 a, .rs 2 (raw.map ptR)] TrueS := by
  refine .of_code' tab_ok Try.func3 (by rfl) rfl trivial ?_
  have hl : (raw.map ptR).length = raw.length := by simp
  conv => whnf
  refine CallG.of_code tab_ok Try.func15 (by rfl) rfl ?_
  conv => whnf
  refine LoopG.inv tab_ok 42 (fun x : { x : Nat × Int // x.1 ≤ 3 ∧ 0 ≤ x.2 ∧ x.2 ≤ 60 * x.1 } => [(1, .int .i64 a), (2, .rs 2 (raw.map ptR)), (7, .ptr 0 0), (8, .int .i64 (x.1.1 : Int))])
    (fun x => [chs ls x.1.2]) (fun x => 3 - x.1.1) ⟨(0, 0), by decide⟩ (.of [some 0] (by rfl) ?_) ?_
  · conv => whnf
    refine ⟨by rfl, ?_⟩
    conv => whnf
    refine ⟨by rfl, ?_⟩
    conv => whnf
    refine ⟨by rfl, ?_⟩
    conv => whnf
    refine ⟨by rfl, ?_⟩
    conv => whnf
    refine ⟨by rfl, ?_⟩
    conv => whnf
    exact trivial
  · intro x
    obtain ⟨hx1, hx2, hx3⟩ := x.2
    conv => whnf
    refine ⟨fun hb => ?_, fun hb => ?_⟩
    · have hb : (x.1.1 : Int) < 3 := by simpa using hb
      conv => whnf
      refine (next_s ls x.1.2 40 hx2 (by omega) (by decide)).call [0] (by decide) (And.intro rfl trivial) (And.intro rfl trivial) ?_
      rintro _ _ ⟨rfl, rfl⟩
      conv => whnf
      refine (parts_s ls _ 5 (by omega) (by omega) (by decide) (by decide)).call [0] (by decide) (And.intro rfl trivial) (And.intro rfl trivial) ?_
      rintro _ _ ⟨us, a2, rfl, rfl, hu1, hu2, hu3, hu4⟩
      conv => whnf
      refine (apportions_s _ us (by omega)).call ?_
      rintro _ rfl
      conv => whnf
      refine both_f rfl ?_
      conv => whnf
      refine ⟨⟨(x.1.1 + 1, a2), by show x.1.1 + 1 ≤ 3; omega, by show 0 ≤ a2; omega, by show a2 ≤ 60 * ((x.1.1 + 1 : Nat) : Int); omega⟩, by show 3 - (x.1.1 + 1) < 3 - x.1.1; omega, .of [some 0] (by rfl) ?_⟩
      conv => whnf
      refine ⟨by rfl, ?_⟩
      conv => whnf
      refine ⟨by rfl, ?_⟩
      conv => whnf
      refine ⟨by exact (w64 _ (by omega) (by omega)).trans (by simp), ?_⟩
      conv => whnf
      refine ⟨by rfl, ?_⟩
      conv => whnf
      refine ⟨by rfl, ?_⟩
      conv => whnf
      exact trivial
    · conv => whnf
      refine .same ?_
      conv => whnf
      refine ⟨fun hc => ?_, fun hc => ?_⟩
      · conv => whnf
      · have hc : (raw.length : Int) ≤ 20 := by rw [hl] at hc; simpa using hc
        conv => whnf
        refine ⟨fun hd => ?_, fun hd => ?_⟩
        · conv => whnf
        · conv => whnf
          refine (apportions_s _ raw (by omega)).call ?_
          rintro _ rfl
          conv => whnf
          refine both_t rfl ?_
          conv => whnf
          refine (parts_s ls _ 2 (by omega) (by omega) (by decide) (by decide)).call [0] (by decide) (And.intro rfl trivial) (And.intro rfl trivial) ?_
          rintro _ _ ⟨us, a2, rfl, rfl, hu1, hu2, hu3, hu4⟩
          conv => whnf
          refine (apportions_s _ us (by omega)).call ?_
          rintro _ rfl
          conv => whnf
          refine both_t rfl ?_
          conv => whnf
          refine (awake3_s).call ?_
          rintro _ rfl
          conv => whnf
end Go.Proofs.Ythlomoacacebeab

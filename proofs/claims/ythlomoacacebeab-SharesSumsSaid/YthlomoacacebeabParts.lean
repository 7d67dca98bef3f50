/- Lists of parts; contracts of Valid and Split of package shares and of its reference. No statement of the seat is proved here. -/
import Derived.Test.YthlomoacacebeabGenW
import Derived.Test.YthlomoacacebeabRMulDiv
import Derived.Test.YthlomoacacebeabAux2
namespace Go.Proofs.Ythlomoacacebeab
open Go.Sx
set_option linter.unusedSimpArgs false
set_option linter.unusedVariables false
abbrev ptR (p : Int × Int) : List SV := [.int .i64 p.1, .int .i64 p.2]
abbrev gp (l : List (Int × Int)) (i : Nat) : Int × Int := l.getD i (0, 0)
theorem gp_get {l : List (Int × Int)} {i : Nat} (h : i < l.length) : (l.map ptR)[(i : Int).toNat]? = some [SV.int .i64 (gp l i).1, SV.int .i64 (gp l i).2] := by
  rw [Int.toNat_natCast, List.getElem?_map, List.getElem?_eq_getElem h]
  simp [List.getD, List.getElem?_eq_getElem h]
def ptI (l : List (Int × Int)) (i : Nat) : Prop := (if i = 0 then -1 else (gp l (i - 1)).1) < (gp l i).1 ∧ 1 ≤ (gp l i).2 ∧ (gp l i).2 ≤ 2147483648
def ptO (l : List (Int × Int)) : Prop := l.length ≤ 64 ∧ ∀ i, i < l.length → ptI l i
open Classical in
noncomputable def ptB (l : List (Int × Int)) : Bool := decide (ptO l)
theorem ptB_yes {l : List (Int × Int)} (h : ptO l) : ptB l = true := by simp [ptB, h]
theorem ptB_no {l : List (Int × Int)} (h : ¬ ptO l) : ptB l = false := by simp [ptB, h]
theorem pt_bad {l : List (Int × Int)} {i : Nat} (hi : i < l.length) (h : ¬ ptI l i) : SV.bool false = SV.bool (ptB l) := bool_e (ptB_no fun q => h (q.2 i hi)).symm
theorem ptI_iff (l : List (Int × Int)) (i : Nat) : ptI l i ↔ (if i = 0 then -1 else (gp l (i - 1)).1) < (gp l i).1 ∧ 1 ≤ (gp l i).2 ∧ (gp l i).2 ≤ 2147483648 := Iff.rfl
theorem svalid_s (l : List (Int × Int)) (hlen : l.length ≤ 1000000) : PSpec Try.prog 47 [.rs 2 (l.map ptR)] (· = .bool (ptB l)) := by
  refine .of_code' tab_ok Try.func47 (by rfl) rfl trivial ?_
  have hl : (l.map ptR).length = l.length := by simp
  conv => whnf
  refine LoopG.inv tab_ok 32 (fun i : { i : Nat // i ≤ l.length ∧ ∀ j, j < i → ptI l j } => [(0, .rs 2 (l.map ptR)), (3, .int .i64 (if i.1 = 0 then -1 else (gp l (i.1 - 1)).1)), (6, .rs 2 (l.map ptR)), (7, .int .i64 ((l.map ptR).length : Int)), (8, .int .i64 (i.1 : Int))])
    (fun _ => []) (fun i => l.length - i.1) ⟨0, by omega, by intro j hj; omega⟩ (.of [] (by decide) ?_) ?_
  · conv => whnf
    refine ⟨by rfl, ?_⟩
    conv => whnf
    refine ⟨by rfl, ?_⟩
    conv => whnf
    refine ⟨by rfl, ?_⟩
    conv => whnf
    refine ⟨by rfl, ?_⟩
    conv => whnf
    refine ⟨by rfl, ?_⟩
    conv => whnf
    exact trivial
  · intro i
    obtain ⟨hi, hg⟩ := i.2
    conv => whnf
    refine ⟨fun hb => ?_, fun hb => ?_⟩
    · have hb : i.1 < l.length := by simpa [hl] using hb
      have pi := ptI_iff l i.1
      conv => whnf
      refine ⟨by omega, ?_⟩
      conv => whnf
      refine ⟨_, gp_get hb, ?_⟩
      conv => whnf
      refine ⟨fun hh1 => ?_, fun hh1 => ?_⟩
      · simp only [decide_eq_true_eq, decide_eq_false_iff_not] at hh1
        conv => whnf
        refine .same ?_
        conv => whnf
        exact pt_bad hb (fun q => by have := pi.1 q; omega)
      · simp only [decide_eq_true_eq, decide_eq_false_iff_not] at hh1
        conv => whnf
        refine ⟨fun hh2 => ?_, fun hh2 => ?_⟩
        · simp only [decide_eq_true_eq, decide_eq_false_iff_not] at hh2
          conv => whnf
          refine .same ?_
          conv => whnf
          exact pt_bad hb (fun q => by have := pi.1 q; omega)
        · simp only [decide_eq_true_eq, decide_eq_false_iff_not] at hh2
          conv => whnf
          refine ⟨fun hh3 => ?_, fun hh3 => ?_⟩
          · simp only [decide_eq_true_eq, decide_eq_false_iff_not] at hh3
            conv => whnf
            refine .same ?_
            conv => whnf
            exact pt_bad hb (fun q => by have := pi.1 q; omega)
          · simp only [decide_eq_true_eq, decide_eq_false_iff_not] at hh3
            conv => whnf
            refine ⟨⟨i.1 + 1, by omega, fun j hj => (by rcases Nat.lt_succ_iff_lt_or_eq.1 hj with h | h; exact hg j h; (subst h; exact pi.2 ⟨by omega, by omega, by omega⟩))⟩, by show l.length - (i.1 + 1) < l.length - i.1; omega, .of [] (by decide) ?_⟩
            conv => whnf
            refine ⟨by rfl, ?_⟩
            conv => whnf
            refine ⟨by rfl, ?_⟩
            conv => whnf
            refine ⟨by rfl, ?_⟩
            conv => whnf
            refine ⟨by rfl, ?_⟩
            conv => whnf
            refine ⟨by exact (w64 _ (by omega) (by omega)).trans (by simp), ?_⟩
            conv => whnf
            exact trivial
    · have hb : i.1 = l.length := by simp [hl] at hb; omega
      by_cases h64 : l.length ≤ 64
      · have y1 := ptB_yes (l := l) ⟨h64, fun j hj => hg j (by omega)⟩
        conv => whnf
        refine .same ?_
        conv => whnf
        exact bool_e (by rw [y1, hl]; exact decide_eq_true (by omega))
      · have y1 := ptB_no (l := l) fun h => h64 h.1
        conv => whnf
        refine .same ?_
        conv => whnf
        exact bool_e (by rw [y1, hl]; exact decide_eq_false (by omega))
theorem rvalidParts_s (l : List (Int × Int)) (hlen : l.length ≤ 1000000) : PSpec Try.prog 70 [.rs 2 (l.map ptR)] (· = .bool (ptB l)) := by
  refine .of_code' tab_ok Try.func70 (by rfl) rfl trivial ?_
  have hl : (l.map ptR).length = l.length := by simp
  by_cases h64 : l.length ≤ 64
  · conv => whnf
    refine both_f (by rw [hl]; exact decide_eq_false (by omega)) ?_
    conv => whnf
    refine LoopG.inv tab_ok 53 (fun i : { i : Nat // i ≤ l.length ∧ ∀ j, j < i → ptI l j ∧ 0 ≤ (gp l j).1 } => [(0, .rs 2 (l.map ptR)), (3, .int .i64 (i.1 : Int))])
      (fun _ => []) (fun i => l.length - i.1) ⟨0, by omega, by intro j hj; omega⟩ (.of [] (by decide) ?_) ?_
    · conv => whnf
      refine ⟨by rfl, ?_⟩
      conv => whnf
      refine ⟨by rfl, ?_⟩
      conv => whnf
      exact trivial
    · intro i
      obtain ⟨hi, hg⟩ := i.2
      conv => whnf
      refine ⟨fun hb => ?_, fun hb => ?_⟩
      · have hb : i.1 < l.length := by simpa [hl] using hb
        have pi := ptI_iff l i.1
        have pr : 0 < i.1 → 0 ≤ (gp l (i.1 - 1)).1 := fun h => (hg (i.1 - 1) (by omega)).2
        have i0 : 0 < i.1 → IntKind.i64.wrap ((i.1 : Int) - 1) = ((i.1 - 1 : Nat) : Int) := fun h => by rw [w64 _ (by omega) (by omega)]; omega
        by_cases hz : i.1 = 0
        · rw [if_pos hz] at pi
          conv => whnf
          refine DrawG.of mixed tab_ok ?_
          conv => whnf
          refine ⟨by omega, ?_⟩
          conv => whnf
          refine ⟨_, gp_get hb, ?_⟩
          conv => whnf
          refine ⟨fun hh1 => ?_, fun hh1 => ?_⟩
          · simp only [decide_eq_true_eq, decide_eq_false_iff_not] at hh1
            conv => whnf
            refine ⟨by kernel_rfl, ?_⟩
            conv => whnf
            refine .same ?_
            conv => whnf
            exact pt_bad hb (fun q => by have := pi.1 q; omega)
          · simp only [decide_eq_true_eq, decide_eq_false_iff_not] at hh1
            conv => whnf
            refine both_f (by simp; omega) ?_
            conv => whnf
            refine ⟨by omega, ?_⟩
            conv => whnf
            refine ⟨_, gp_get hb, ?_⟩
            conv => whnf
            refine ⟨fun hh3 => ?_, fun hh3 => ?_⟩
            · simp only [decide_eq_true_eq, decide_eq_false_iff_not] at hh3
              conv => whnf
              refine ⟨by kernel_rfl, ?_⟩
              conv => whnf
              refine .same ?_
              conv => whnf
              exact pt_bad hb (fun q => by have := pi.1 q; omega)
            · simp only [decide_eq_true_eq, decide_eq_false_iff_not] at hh3
              conv => whnf
              refine ⟨by omega, ?_⟩
              conv => whnf
              refine ⟨_, gp_get hb, ?_⟩
              conv => whnf
              refine ⟨by kernel_rfl, ?_⟩
              conv => whnf
              refine ⟨fun hh5 => ?_, fun hh5 => ?_⟩
              · simp only [decide_eq_true_eq, decide_eq_false_iff_not] at hh5
                conv => whnf
                refine .same ?_
                conv => whnf
                exact pt_bad hb (fun q => by have := pi.1 q; omega)
              · simp only [decide_eq_true_eq, decide_eq_false_iff_not] at hh5
                conv => whnf
                refine ⟨⟨i.1 + 1, by omega, fun j hj => (by rcases Nat.lt_succ_iff_lt_or_eq.1 hj with h | h; exact hg j h; (subst h; exact ⟨pi.2 ⟨by omega, by omega, by omega⟩, by omega⟩))⟩, by show l.length - (i.1 + 1) < l.length - i.1; omega, .of [] (by decide) ?_⟩
                conv => whnf
                refine ⟨by rfl, ?_⟩
                conv => whnf
                refine ⟨by exact (w64 _ (by omega) (by omega)).trans (by simp), ?_⟩
                conv => whnf
                exact trivial
        · rw [if_neg hz] at pi
          have pr := pr (by omega)
          have i0 := i0 (by omega)
          conv => whnf
          refine DrawG.of mixed tab_ok ?_
          conv => whnf
          refine ⟨by omega, ?_⟩
          conv => whnf
          refine ⟨_, gp_get hb, ?_⟩
          conv => whnf
          refine ⟨fun hh1 => ?_, fun hh1 => ?_⟩
          · simp only [decide_eq_true_eq, decide_eq_false_iff_not] at hh1
            conv => whnf
            refine ⟨by kernel_rfl, ?_⟩
            conv => whnf
            refine .same ?_
            conv => whnf
            exact pt_bad hb (fun q => by have := pi.1 q; omega)
          · simp only [decide_eq_true_eq, decide_eq_false_iff_not] at hh1
            conv => whnf
            refine both_t (by simp; omega) ?_
            conv => whnf
            refine ⟨by omega, ?_⟩
            conv => whnf
            refine ⟨_, gp_get hb, ?_⟩
            conv => whnf
            refine ⟨by omega, ?_⟩
            conv => whnf
            refine ⟨_, (by rw [i0]; exact gp_get (i := i.1 - 1) (by omega)), ?_⟩
            conv => whnf
            refine ⟨fun hh4 => ?_, fun hh4 => ?_⟩
            · simp only [decide_eq_true_eq, decide_eq_false_iff_not] at hh4
              conv => whnf
              refine ⟨by kernel_rfl, ?_⟩
              conv => whnf
              refine .same ?_
              conv => whnf
              exact pt_bad hb (fun q => by have := pi.1 q; omega)
            · simp only [decide_eq_true_eq, decide_eq_false_iff_not] at hh4
              conv => whnf
              refine ⟨by omega, ?_⟩
              conv => whnf
              refine ⟨_, gp_get hb, ?_⟩
              conv => whnf
              refine ⟨fun hh6 => ?_, fun hh6 => ?_⟩
              · simp only [decide_eq_true_eq, decide_eq_false_iff_not] at hh6
                conv => whnf
                refine ⟨by kernel_rfl, ?_⟩
                conv => whnf
                refine .same ?_
                conv => whnf
                exact pt_bad hb (fun q => by have := pi.1 q; omega)
              · simp only [decide_eq_true_eq, decide_eq_false_iff_not] at hh6
                conv => whnf
                refine ⟨by omega, ?_⟩
                conv => whnf
                refine ⟨_, gp_get hb, ?_⟩
                conv => whnf
                refine ⟨by kernel_rfl, ?_⟩
                conv => whnf
                refine ⟨fun hh8 => ?_, fun hh8 => ?_⟩
                · simp only [decide_eq_true_eq, decide_eq_false_iff_not] at hh8
                  conv => whnf
                  refine .same ?_
                  conv => whnf
                  exact pt_bad hb (fun q => by have := pi.1 q; omega)
                · simp only [decide_eq_true_eq, decide_eq_false_iff_not] at hh8
                  conv => whnf
                  refine ⟨⟨i.1 + 1, by omega, fun j hj => (by rcases Nat.lt_succ_iff_lt_or_eq.1 hj with h | h; exact hg j h; (subst h; exact ⟨pi.2 ⟨by omega, by omega, by omega⟩, by omega⟩))⟩, by show l.length - (i.1 + 1) < l.length - i.1; omega, .of [] (by decide) ?_⟩
                  conv => whnf
                  refine ⟨by rfl, ?_⟩
                  conv => whnf
                  refine ⟨by exact (w64 _ (by omega) (by omega)).trans (by simp), ?_⟩
                  conv => whnf
                  exact trivial
      · have hb : i.1 = l.length := by simp [hl] at hb; omega
        have y1 := ptB_yes (l := l) ⟨h64, fun j hj => (hg j (by omega)).1⟩
        conv => whnf
        refine .same ?_
        conv => whnf
        exact bool_e y1.symm
  · have y1 := ptB_no (l := l) fun h => h64 h.1
    conv => whnf
    refine both_t (by simp; omega) ?_
    conv => whnf
    exact bool_e y1.symm
/-! ### lists that are filled from the front -/
def tabL (n : Nat) (f : Nat → Int) (i : Nat) : List Int := (List.range n).map fun j => if j < i then f j else 0
theorem tab_len (n : Nat) (f : Nat → Int) (i : Nat) : (nums (tabL n f i)).length = n := by simp [nums, tabL]
theorem tab_zero (n : Nat) (f : Nat → Int) : nums (tabL n f 0) = List.replicate n [SV.int .i64 0] := by
  simp [nums, tabL, List.map_const']
theorem tab_get {n : Nat} (f : Nat → Int) (i : Nat) {j : Nat} (h : j < n) : (nums (tabL n f i))[(j : Int).toNat]? = some [SV.int .i64 (if j < i then f j else 0)] := by
  rw [Int.toNat_natCast]; simp [nums, tabL, h]
theorem tab_set {n : Nat} {f : Nat → Int} {i : Nat} (h : i < n) {v : Int} (hv : v = f i) : (nums (tabL n f i)).set (i : Int).toNat [SV.int .i64 v] = nums (tabL n f (i + 1)) := by
  rw [Int.toNat_natCast]
  apply List.ext_getElem?
  intro j
  by_cases hj : j < n
  · by_cases e : i = j
    · subst e; simp [nums, tabL, h, hv]
    · rw [List.getElem?_set_ne e]; simp only [nums, tabL, List.getElem?_map, List.getElem?_range hj, Option.map_some]; congr 3; by_cases hji : j < i
      · rw [if_pos hji, if_pos (by omega)]
      · rw [if_neg hji, if_neg (by omega)]
  · have e1 : ((nums (tabL n f i)).set i [SV.int .i64 v]).length = n := by simp [tab_len]
    rw [List.getElem?_eq_none (by rw [e1]; omega), List.getElem?_eq_none (by rw [tab_len]; omega)]
/-! ### Split -/
def totS (l : List (Int × Int)) : Nat → Int
  | 0 => 0
  | i + 1 => totS l i + (gp l i).2
theorem totS_rng {l : List (Int × Int)} (h : ptO l) : ∀ i, i ≤ l.length → (i : Int) ≤ totS l i ∧ totS l i ≤ 2147483648 * (i : Int) := by
  intro i
  induction i with
  | zero => intro _; simp [totS]
  | succ i ih =>
    intro hi
    have := ih (by omega)
    have := (h.2 i (by omega)).2
    simp only [totS]; omega
def rdn (a : Int) : Int := if a < 0 then 1 else 0
def spF (a : Int) (l : List (Int × Int)) (j : Nat) : Int := mdv a (gp l j).2 (totS l l.length) (rdn a)
def spL (a : Int) (l : List (Int × Int)) : Nat → Int
  | 0 => a
  | i + 1 => IntKind.i64.wrap (spL a l i - spF a l i)
def spG (a : Int) (l : List (Int × Int)) (j : Nat) : Int := if j = 0 then IntKind.i64.wrap (spF a l 0 + spL a l l.length) else spF a l j
open Classical in
noncomputable def spO (a : Int) (l : List (Int × Int)) : List Int := if ptO l ∧ l.length ≠ 0 then tabL l.length (spG a l) l.length else []
open Classical in
noncomputable def spe (l : List (Int × Int)) : Int := if ptO l then (if l.length = 0 then 5 else 0) else 1
theorem sp_no (a : Int) {l : List (Int × Int)} (h : ¬ ptO l) : spO a l = [] ∧ spe l = 1 := by simp [spO, spe, h]
theorem sp_nil (a : Int) {l : List (Int × Int)} (h : ptO l) (h0 : l.length = 0) : spO a l = [] ∧ spe l = 5 := by simp [spO, spe, h, h0]
theorem sp_yes (a : Int) {l : List (Int × Int)} (h : ptO l) (h0 : l.length ≠ 0) : spO a l = tabL l.length (spG a l) l.length ∧ spe l = 0 := by simp [spO, spe, h, h0]
theorem sp_fin {a : Int} {l : List (Int × Int)} (h0 : l.length ≠ 0) {v : Int} (hv : v = spG a l 0) : (nums (tabL l.length (spF a l) l.length)).set (Int.toNat 0) [SV.int .i64 v] = nums (tabL l.length (spG a l) l.length) := by
  apply List.ext_getElem?
  intro j
  by_cases hj : j < l.length
  · by_cases e : 0 = j
    · subst e; simp [nums, tabL, hj, hv]
    · rw [show Int.toNat 0 = 0 from rfl, List.getElem?_set_ne e]; simp only [nums, tabL, List.getElem?_map, List.getElem?_range hj, Option.map_some, if_pos hj, spG, if_neg (Ne.symm e)]
  · have e1 : ((nums (tabL l.length (spF a l) l.length)).set (Int.toNat 0) [SV.int .i64 v]).length = l.length := by simp [tab_len]
    rw [List.getElem?_eq_none (by rw [e1]; omega), List.getElem?_eq_none (by rw [tab_len]; omega)]
theorem tab_done {n : Nat} (f : Nat → Int) {j : Nat} (h : j < n) : (nums (tabL n f n))[(j : Int).toNat]? = some [SV.int .i64 (f j)] := by
  rw [tab_get f n h, if_pos h]
theorem tab_new {n : Nat} {f : Nat → Int} {i : Nat} (h : i < n) {v : Int} (hv : v = f i) : ((nums (tabL n f i)).set (i : Int).toNat [SV.int .i64 v])[(i : Int).toNat]? = some [SV.int .i64 (f i)] := by
  rw [tab_set h hv, tab_get f (i + 1) h, if_pos (by omega)]
theorem pt_w {l : List (Int × Int)} (h : ptO l) {i : Nat} (hi : i < l.length) : -9223372036854775808 ≤ (gp l i).2 ∧ (gp l i).2 ≤ 9223372036854775807 := by
  have := (h.2 i hi).2; omega
theorem tot_w {l : List (Int × Int)} (h : ptO l) : -9223372036854775808 ≤ totS l l.length ∧ totS l l.length ≤ 9223372036854775807 := by
  have := totS_rng h l.length (Nat.le_refl _)
  have := h.1
  omega
theorem split_r (a : Int) (ha : -9223372036854775808 ≤ a ∧ a ≤ 9223372036854775807) (l : List (Int × Int)) (hlen : l.length ≤ 1000000) :
    PSpec Try.prog 23 [.int .i64 a, .rs 2 (l.map ptR)] fun s => ∃ x, s = .tup [x, .int .i64 (spe l)] ∧ RowIs 1 (nums (spO a l)) x := by
  refine .of_codeF tab_ok Try.func23 (by rfl) rfl trivial ?_
  have hl : (l.map ptR).length = l.length := by simp
  by_cases hO : ptO l
  · have hB := ptB_yes hO
    have h64 := hO.1
    by_cases h0 : l.length = 0
    · obtain ⟨y1, y2⟩ := sp_nil a hO h0
      conv => whnf
      refine (svalid_s _ (by first | omega | assumption | decide | simp)).call ?_
      rintro _ rfl
      conv => whnf
      refine both_f (by simp; omega) ?_
      conv => whnf
      refine both_t (by simp [*]) ?_
      conv => whnf
      refine ⟨.nils, by rw [y2], .inr ⟨rfl, by rw [y1]; rfl⟩⟩
    · obtain ⟨y1, y2⟩ := sp_yes a hO h0
      conv => whnf
      refine (svalid_s _ (by first | omega | assumption | decide | simp)).call ?_
      rintro _ rfl
      conv => whnf
      refine both_f (by rw [hB]; rfl) ?_
      conv => whnf
      refine both_f (by rw [hl]; exact decide_eq_false (by omega)) ?_
      conv => whnf
      refine LoopG.inv tab_ok 72 (fun i : { i : Nat // i ≤ l.length } => [(0, .int .i64 a), (1, .rs 2 (l.map ptR)), (6, .int .i64 (totS l i.1)), (22, .rs 2 (l.map ptR)), (23, .int .i64 ((l.map ptR).length : Int)), (24, .int .i64 (i.1 : Int))])
        (fun _ => []) (fun i => l.length - i.1) ⟨0, by omega⟩ (.of [] (by decide) ?_) ?_
      · conv => whnf
        refine ⟨by rfl, ?_⟩
        conv => whnf
        refine ⟨by rfl, ?_⟩
        conv => whnf
        refine ⟨by rfl, ?_⟩
        conv => whnf
        refine ⟨by rfl, ?_⟩
        conv => whnf
        refine ⟨by rfl, ?_⟩
        conv => whnf
        refine ⟨by rfl, ?_⟩
        conv => whnf
        exact trivial
      · intro i
        have hi := i.2
        have tr := totS_rng hO i.1 hi
        conv => whnf
        refine ⟨fun hb => ?_, fun hb => ?_⟩
        · have hb : i.1 < l.length := by simpa [hl] using hb
          have tr2 := totS_rng hO (i.1 + 1) hb
          have e : totS l (i.1 + 1) = totS l i.1 + (gp l i.1).2 := rfl
          conv => whnf
          refine ⟨by omega, ?_⟩
          conv => whnf
          refine ⟨_, gp_get hb, ?_⟩
          conv => whnf
          refine ⟨⟨i.1 + 1, by omega⟩, by show l.length - (i.1 + 1) < l.length - i.1; omega, .of [] (by decide) ?_⟩
          conv => whnf
          refine ⟨by rfl, ?_⟩
          conv => whnf
          refine ⟨by rfl, ?_⟩
          conv => whnf
          refine ⟨by (rw [w64 _ (by omega) (by omega)]; rfl), ?_⟩
          conv => whnf
          refine ⟨by rfl, ?_⟩
          conv => whnf
          refine ⟨by rfl, ?_⟩
          conv => whnf
          refine ⟨by exact (w64 _ (by omega) (by omega)).trans (by simp), ?_⟩
          conv => whnf
          exact trivial
        · have hb : i.1 = l.length := by simp [hl] at hb; omega
          rw [hb] at tr
          rw [hb]
          have htt := tot_w hO
          conv => whnf
          refine .same ?_
          conv => whnf
          refine ⟨fun hneg => ?_, fun hneg => ?_⟩
          · simp only [decide_eq_true_eq, decide_eq_false_iff_not] at hneg
            have er : rdn a = 1 := if_pos hneg
            conv => whnf
            refine ⟨by simp; omega, ?_⟩
            conv => whnf
            refine LoopG.inv tab_ok 72 (fun i : { i : Nat // i ≤ l.length } => [(0, .int .i64 a), (6, .int .i64 (totS l l.length)), (9, .int .i64 1), (10, .sl 0), (11, .int .i64 (spL a l i.1)), (39, .rs 2 (l.map ptR)), (40, .int .i64 ((l.map ptR).length : Int)), (41, .int .i64 (i.1 : Int))])
              (fun i => [.row 2 1 (nums (tabL l.length (spF a l) i.1))]) (fun i => l.length - i.1) ⟨0, by omega⟩ (.of [some 0] (by rfl) ?_) ?_
            · conv => whnf
              refine ⟨by rfl, ?_⟩
              conv => whnf
              refine ⟨by rfl, ?_⟩
              conv => whnf
              refine ⟨by rfl, ?_⟩
              conv => whnf
              refine ⟨by rfl, ?_⟩
              conv => whnf
              refine ⟨by rfl, ?_⟩
              conv => whnf
              refine ⟨by rfl, ?_⟩
              conv => whnf
              refine ⟨by rfl, ?_⟩
              conv => whnf
              refine ⟨by (rw [hl, Int.toNat_natCast, tab_zero]), ?_⟩
              conv => whnf
              exact trivial
            · intro i
              have hi := i.2
              have tl := tab_len l.length (spF a l) i.1
              conv => whnf
              refine ⟨fun hb => ?_, fun hb => ?_⟩
              · have hb : i.1 < l.length := by simpa [hl] using hb
                have hw := pt_w hO hb
                have sf : mdv a (gp l i.1).2 (totS l l.length) 1 = spF a l i.1 := by unfold spF; rw [er]
                conv => whnf
                refine ⟨by omega, ?_⟩
                conv => whnf
                refine ⟨_, gp_get hb, ?_⟩
                conv => whnf
                refine (muldiv_s _ _ _ _ (by first | omega | assumption | decide | simp) (by first | omega | assumption | decide | simp) (by first | omega | assumption | decide | simp)).call ?_
                rintro _ rfl
                conv => whnf
                refine ⟨by omega, ?_⟩
                conv => whnf
                refine ⟨_, tab_get _ _ hb, ?_⟩
                conv => whnf
                refine ⟨by simp; omega, ?_⟩
                conv => whnf
                refine ⟨_, tab_new hb sf, ?_⟩
                conv => whnf
                refine ⟨⟨i.1 + 1, by omega⟩, by show l.length - (i.1 + 1) < l.length - i.1; omega, .of [some 0] (by rfl) ?_⟩
                conv => whnf
                refine ⟨by rfl, ?_⟩
                conv => whnf
                refine ⟨by rfl, ?_⟩
                conv => whnf
                refine ⟨by rfl, ?_⟩
                conv => whnf
                refine ⟨by rfl, ?_⟩
                conv => whnf
                refine ⟨by rfl, ?_⟩
                conv => whnf
                refine ⟨by rfl, ?_⟩
                conv => whnf
                refine ⟨by exact (w64 _ (by omega) (by omega)).trans (by simp), ?_⟩
                conv => whnf
                refine ⟨by exact tab_set hb sf, ?_⟩
                conv => whnf
                exact trivial
              · have hb : i.1 = l.length := by simp [hl] at hb; omega
                have hz : 0 < l.length := by omega
                rw [hb]
                conv => whnf
                refine .same ?_
                conv => whnf
                refine ⟨by exact ⟨by omega, by simp [nums, tabL]; omega⟩, ?_⟩
                conv => whnf
                refine ⟨_, tab_done (n := l.length) (spF a l) (j := 0) hz, ?_⟩
                conv => whnf
                refine ⟨by exact ⟨by omega, by simp [nums, tabL]; omega⟩, ?_⟩
                conv => whnf
                refine ⟨_, tab_done (n := l.length) (spF a l) (j := 0) hz, ?_⟩
                conv => whnf
                refine ⟨_, by rw [y2], .inl (by rw [y1]; exact congrArg (SV.rs 1) (sp_fin h0 rfl))⟩
          · simp only [decide_eq_true_eq, decide_eq_false_iff_not] at hneg
            have er : rdn a = 0 := if_neg hneg
            conv => whnf
            refine ⟨by simp; omega, ?_⟩
            conv => whnf
            refine LoopG.inv tab_ok 72 (fun i : { i : Nat // i ≤ l.length } => [(0, .int .i64 a), (6, .int .i64 (totS l l.length)), (9, .int .i64 0), (10, .sl 0), (11, .int .i64 (spL a l i.1)), (39, .rs 2 (l.map ptR)), (40, .int .i64 ((l.map ptR).length : Int)), (41, .int .i64 (i.1 : Int))])
              (fun i => [.row 2 1 (nums (tabL l.length (spF a l) i.1))]) (fun i => l.length - i.1) ⟨0, by omega⟩ (.of [some 0] (by rfl) ?_) ?_
            · conv => whnf
              refine ⟨by rfl, ?_⟩
              conv => whnf
              refine ⟨by rfl, ?_⟩
              conv => whnf
              refine ⟨by rfl, ?_⟩
              conv => whnf
              refine ⟨by rfl, ?_⟩
              conv => whnf
              refine ⟨by rfl, ?_⟩
              conv => whnf
              refine ⟨by rfl, ?_⟩
              conv => whnf
              refine ⟨by rfl, ?_⟩
              conv => whnf
              refine ⟨by (rw [hl, Int.toNat_natCast, tab_zero]), ?_⟩
              conv => whnf
              exact trivial
            · intro i
              have hi := i.2
              have tl := tab_len l.length (spF a l) i.1
              conv => whnf
              refine ⟨fun hb => ?_, fun hb => ?_⟩
              · have hb : i.1 < l.length := by simpa [hl] using hb
                have hw := pt_w hO hb
                have sf : mdv a (gp l i.1).2 (totS l l.length) 0 = spF a l i.1 := by unfold spF; rw [er]
                conv => whnf
                refine ⟨by omega, ?_⟩
                conv => whnf
                refine ⟨_, gp_get hb, ?_⟩
                conv => whnf
                refine (muldiv_s _ _ _ _ (by first | omega | assumption | decide | simp) (by first | omega | assumption | decide | simp) (by first | omega | assumption | decide | simp)).call ?_
                rintro _ rfl
                conv => whnf
                refine ⟨by omega, ?_⟩
                conv => whnf
                refine ⟨_, tab_get _ _ hb, ?_⟩
                conv => whnf
                refine ⟨by simp; omega, ?_⟩
                conv => whnf
                refine ⟨_, tab_new hb sf, ?_⟩
                conv => whnf
                refine ⟨⟨i.1 + 1, by omega⟩, by show l.length - (i.1 + 1) < l.length - i.1; omega, .of [some 0] (by rfl) ?_⟩
                conv => whnf
                refine ⟨by rfl, ?_⟩
                conv => whnf
                refine ⟨by rfl, ?_⟩
                conv => whnf
                refine ⟨by rfl, ?_⟩
                conv => whnf
                refine ⟨by rfl, ?_⟩
                conv => whnf
                refine ⟨by rfl, ?_⟩
                conv => whnf
                refine ⟨by rfl, ?_⟩
                conv => whnf
                refine ⟨by exact (w64 _ (by omega) (by omega)).trans (by simp), ?_⟩
                conv => whnf
                refine ⟨by exact tab_set hb sf, ?_⟩
                conv => whnf
                exact trivial
              · have hb : i.1 = l.length := by simp [hl] at hb; omega
                have hz : 0 < l.length := by omega
                rw [hb]
                conv => whnf
                refine .same ?_
                conv => whnf
                refine ⟨by exact ⟨by omega, by simp [nums, tabL]; omega⟩, ?_⟩
                conv => whnf
                refine ⟨_, tab_done (n := l.length) (spF a l) (j := 0) hz, ?_⟩
                conv => whnf
                refine ⟨by exact ⟨by omega, by simp [nums, tabL]; omega⟩, ?_⟩
                conv => whnf
                refine ⟨_, tab_done (n := l.length) (spF a l) (j := 0) hz, ?_⟩
                conv => whnf
                refine ⟨_, by rw [y2], .inl (by rw [y1]; exact congrArg (SV.rs 1) (sp_fin h0 rfl))⟩
  · obtain ⟨y1, y2⟩ := sp_no a hO
    have hB := ptB_no hO
    conv => whnf
    refine (svalid_s _ (by first | omega | assumption | decide | simp)).call ?_
    rintro _ rfl
    conv => whnf
    refine both_t (by simp; omega) ?_
    conv => whnf
    refine ⟨.nils, by rw [y2], .inr ⟨rfl, by rw [y1]; rfl⟩⟩
theorem rsplit_r (a : Int) (ha : -9223372036854775808 ≤ a ∧ a ≤ 9223372036854775807) (l : List (Int × Int)) (hlen : l.length ≤ 1000000) :
    PSpec Try.prog 72 [.int .i64 a, .rs 2 (l.map ptR)] fun s => ∃ x, s = .tup [x, .int .i64 (spe l)] ∧ RowIs 1 (nums (spO a l)) x := by
  refine .of_codeF tab_ok Try.func72 (by rfl) rfl trivial ?_
  have hl : (l.map ptR).length = l.length := by simp
  by_cases hO : ptO l
  · have hB := ptB_yes hO
    have h64 := hO.1
    by_cases h0 : l.length = 0
    · obtain ⟨y1, y2⟩ := sp_nil a hO h0
      conv => whnf
      refine (rvalidParts_s _ (by first | omega | assumption | decide | simp)).call ?_
      rintro _ rfl
      conv => whnf
      refine both_f (by simp; omega) ?_
      conv => whnf
      refine both_t (by simp [*]) ?_
      conv => whnf
      refine ⟨.nils, by rw [y2], .inr ⟨rfl, by rw [y1]; rfl⟩⟩
    · obtain ⟨y1, y2⟩ := sp_yes a hO h0
      conv => whnf
      refine (rvalidParts_s _ (by first | omega | assumption | decide | simp)).call ?_
      rintro _ rfl
      conv => whnf
      refine both_f (by rw [hB]; rfl) ?_
      conv => whnf
      refine both_f (by rw [hl]; exact decide_eq_false (by omega)) ?_
      conv => whnf
      refine LoopG.inv tab_ok 71 (fun i : { i : Nat // i ≤ l.length } => [(0, .int .i64 a), (1, .rs 2 (l.map ptR)), (6, .int .i64 (totS l i.1)), (7, .int .i64 (i.1 : Int))])
        (fun _ => []) (fun i => l.length - i.1) ⟨0, by omega⟩ (.of [] (by decide) ?_) ?_
      · conv => whnf
        refine ⟨by rfl, ?_⟩
        conv => whnf
        refine ⟨by rfl, ?_⟩
        conv => whnf
        refine ⟨by rfl, ?_⟩
        conv => whnf
        refine ⟨by rfl, ?_⟩
        conv => whnf
        exact trivial
      · intro i
        have hi := i.2
        have tr := totS_rng hO i.1 hi
        conv => whnf
        refine ⟨fun hb => ?_, fun hb => ?_⟩
        · have hb : i.1 < l.length := by simpa [hl] using hb
          have tr2 := totS_rng hO (i.1 + 1) hb
          have e : totS l (i.1 + 1) = totS l i.1 + (gp l i.1).2 := rfl
          conv => whnf
          refine ⟨by omega, ?_⟩
          conv => whnf
          refine ⟨_, gp_get hb, ?_⟩
          conv => whnf
          refine ⟨⟨i.1 + 1, by omega⟩, by show l.length - (i.1 + 1) < l.length - i.1; omega, .of [] (by decide) ?_⟩
          conv => whnf
          refine ⟨by rfl, ?_⟩
          conv => whnf
          refine ⟨by rfl, ?_⟩
          conv => whnf
          refine ⟨by (rw [w64 _ (by omega) (by omega)]; rfl), ?_⟩
          conv => whnf
          refine ⟨by exact (w64 _ (by omega) (by omega)).trans (by simp), ?_⟩
          conv => whnf
          exact trivial
        · have hb : i.1 = l.length := by simp [hl] at hb; omega
          rw [hb] at tr
          rw [hb]
          have htt := tot_w hO
          conv => whnf
          refine .same ?_
          by_cases hneg : a < 0
          · skip
            have er : rdn a = 1 := if_pos hneg
            conv => whnf
            refine ⟨by simp; omega, ?_⟩
            conv => whnf
            refine LoopG.inv tab_ok 71 (fun i : { i : Nat // i ≤ l.length } => [(0, .int .i64 a), (1, .rs 2 (l.map ptR)), (6, .int .i64 (totS l l.length)), (8, .sl 0), (9, .int .i64 (spL a l i.1)), (10, .int .i64 (i.1 : Int))])
              (fun i => [.row 2 1 (nums (tabL l.length (spF a l) i.1))]) (fun i => l.length - i.1) ⟨0, by omega⟩ (.of [some 0] (by rfl) ?_) ?_
            · conv => whnf
              refine ⟨by rfl, ?_⟩
              conv => whnf
              refine ⟨by rfl, ?_⟩
              conv => whnf
              refine ⟨by rfl, ?_⟩
              conv => whnf
              refine ⟨by rfl, ?_⟩
              conv => whnf
              refine ⟨by rfl, ?_⟩
              conv => whnf
              refine ⟨by (rw [hl, Int.toNat_natCast, tab_zero]), ?_⟩
              conv => whnf
              exact trivial
            · intro i
              have hi := i.2
              have tl := tab_len l.length (spF a l) i.1
              conv => whnf
              refine ⟨fun hb => ?_, fun hb => ?_⟩
              · have hb : i.1 < l.length := by simpa [hl] using hb
                have hw := pt_w hO hb
                have sf : mdv a (gp l i.1).2 (totS l l.length) 1 = spF a l i.1 := by unfold spF; rw [er]
                conv => whnf
                refine both_t (by simp; omega) ?_
                conv => whnf
                refine ⟨by omega, ?_⟩
                conv => whnf
                refine ⟨_, gp_get hb, ?_⟩
                conv => whnf
                refine (rmuldiv_s _ _ _ _ (by first | omega | assumption | decide | simp) (by first | omega | assumption | decide | simp) (by first | omega | assumption | decide | simp)).call ?_
                rintro _ rfl
                conv => whnf
                refine ⟨by omega, ?_⟩
                conv => whnf
                refine ⟨_, tab_get _ _ hb, ?_⟩
                conv => whnf
                refine ⟨by simp; omega, ?_⟩
                conv => whnf
                refine ⟨_, tab_new hb sf, ?_⟩
                conv => whnf
                refine ⟨⟨i.1 + 1, by omega⟩, by show l.length - (i.1 + 1) < l.length - i.1; omega, .of [some 0] (by rfl) ?_⟩
                conv => whnf
                refine ⟨by rfl, ?_⟩
                conv => whnf
                refine ⟨by rfl, ?_⟩
                conv => whnf
                refine ⟨by rfl, ?_⟩
                conv => whnf
                refine ⟨by rfl, ?_⟩
                conv => whnf
                refine ⟨by exact (w64 _ (by omega) (by omega)).trans (by simp), ?_⟩
                conv => whnf
                refine ⟨by exact tab_set hb sf, ?_⟩
                conv => whnf
                exact trivial
              · have hb : i.1 = l.length := by simp [hl] at hb; omega
                have hz : 0 < l.length := by omega
                rw [hb]
                conv => whnf
                refine .same ?_
                conv => whnf
                refine ⟨by exact ⟨by omega, by simp [nums, tabL]; omega⟩, ?_⟩
                conv => whnf
                refine ⟨_, tab_done (n := l.length) (spF a l) (j := 0) hz, ?_⟩
                conv => whnf
                refine ⟨by exact ⟨by omega, by simp [nums, tabL]; omega⟩, ?_⟩
                conv => whnf
                refine ⟨_, tab_done (n := l.length) (spF a l) (j := 0) hz, ?_⟩
                conv => whnf
                refine ⟨_, by rw [y2], .inl (by rw [y1]; exact congrArg (SV.rs 1) (sp_fin h0 rfl))⟩
          · skip
            have er : rdn a = 0 := if_neg hneg
            conv => whnf
            refine ⟨by simp; omega, ?_⟩
            conv => whnf
            refine LoopG.inv tab_ok 71 (fun i : { i : Nat // i ≤ l.length } => [(0, .int .i64 a), (1, .rs 2 (l.map ptR)), (6, .int .i64 (totS l l.length)), (8, .sl 0), (9, .int .i64 (spL a l i.1)), (10, .int .i64 (i.1 : Int))])
              (fun i => [.row 2 1 (nums (tabL l.length (spF a l) i.1))]) (fun i => l.length - i.1) ⟨0, by omega⟩ (.of [some 0] (by rfl) ?_) ?_
            · conv => whnf
              refine ⟨by rfl, ?_⟩
              conv => whnf
              refine ⟨by rfl, ?_⟩
              conv => whnf
              refine ⟨by rfl, ?_⟩
              conv => whnf
              refine ⟨by rfl, ?_⟩
              conv => whnf
              refine ⟨by rfl, ?_⟩
              conv => whnf
              refine ⟨by (rw [hl, Int.toNat_natCast, tab_zero]), ?_⟩
              conv => whnf
              exact trivial
            · intro i
              have hi := i.2
              have tl := tab_len l.length (spF a l) i.1
              conv => whnf
              refine ⟨fun hb => ?_, fun hb => ?_⟩
              · have hb : i.1 < l.length := by simpa [hl] using hb
                have hw := pt_w hO hb
                have sf : mdv a (gp l i.1).2 (totS l l.length) 0 = spF a l i.1 := by unfold spF; rw [er]
                conv => whnf
                refine both_f (by simp; omega) ?_
                conv => whnf
                refine ⟨by omega, ?_⟩
                conv => whnf
                refine ⟨_, gp_get hb, ?_⟩
                conv => whnf
                refine (rmuldiv_s _ _ _ _ (by first | omega | assumption | decide | simp) (by first | omega | assumption | decide | simp) (by first | omega | assumption | decide | simp)).call ?_
                rintro _ rfl
                conv => whnf
                refine ⟨by omega, ?_⟩
                conv => whnf
                refine ⟨_, tab_get _ _ hb, ?_⟩
                conv => whnf
                refine ⟨by simp; omega, ?_⟩
                conv => whnf
                refine ⟨_, tab_new hb sf, ?_⟩
                conv => whnf
                refine ⟨⟨i.1 + 1, by omega⟩, by show l.length - (i.1 + 1) < l.length - i.1; omega, .of [some 0] (by rfl) ?_⟩
                conv => whnf
                refine ⟨by rfl, ?_⟩
                conv => whnf
                refine ⟨by rfl, ?_⟩
                conv => whnf
                refine ⟨by rfl, ?_⟩
                conv => whnf
                refine ⟨by rfl, ?_⟩
                conv => whnf
                refine ⟨by exact (w64 _ (by omega) (by omega)).trans (by simp), ?_⟩
                conv => whnf
                refine ⟨by exact tab_set hb sf, ?_⟩
                conv => whnf
                exact trivial
              · have hb : i.1 = l.length := by simp [hl] at hb; omega
                have hz : 0 < l.length := by omega
                rw [hb]
                conv => whnf
                refine .same ?_
                conv => whnf
                refine ⟨by exact ⟨by omega, by simp [nums, tabL]; omega⟩, ?_⟩
                conv => whnf
                refine ⟨_, tab_done (n := l.length) (spF a l) (j := 0) hz, ?_⟩
                conv => whnf
                refine ⟨by exact ⟨by omega, by simp [nums, tabL]; omega⟩, ?_⟩
                conv => whnf
                refine ⟨_, tab_done (n := l.length) (spF a l) (j := 0) hz, ?_⟩
                conv => whnf
                refine ⟨_, by rw [y2], .inl (by rw [y1]; exact congrArg (SV.rs 1) (sp_fin h0 rfl))⟩
  · obtain ⟨y1, y2⟩ := sp_no a hO
    have hB := ptB_no hO
    conv => whnf
    refine (rvalidParts_s _ (by first | omega | assumption | decide | simp)).call ?_
    rintro _ rfl
    conv => whnf
    refine both_t (by simp; omega) ?_
    conv => whnf
    refine ⟨.nils, by rw [y2], .inr ⟨rfl, by rw [y1]; rfl⟩⟩
end Go.Proofs.Ythlomoacacebeab

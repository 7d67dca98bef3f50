/- The rates that chapters 19 and 20 draw, the example of chapter 19, Best; contracts of the statements of chapter 19. -/
import Derived.Test.YthlomoacacebeadAir
namespace Go.Proofs.Ythlomoacacebead
open Go.Sx
set_option linter.unusedSimpArgs false
set_option linter.unusedVariables false
def rtl : List (Int × Int) := [(6000, 100), (8000, 0), (54000, 50), (1, 0), (10000000, 100000), (300000, 20)]
def rtx (ls : List Int) (a : Int) : Int × Int := rtl.getD (nxt ls a 6).toNat (0, 0)
theorem getD_rng {lo hi : Int} {l : List Int} (h : ∀ z ∈ l, lo ≤ z ∧ z ≤ hi) (h0 : lo ≤ 0 ∧ 0 ≤ hi) (k : Nat) : lo ≤ l.getD k 0 ∧ l.getD k 0 ≤ hi := by
  by_cases hk : k < l.length
  · have : l.getD k 0 = l[k] := by simp [List.getD, List.getElem?_eq_getElem hk]
    rw [this]; exact h _ (List.getElem_mem hk)
  · have : l.getD k 0 = 0 := by simp [List.getD, List.getElem?_eq_none (by omega : l.length ≤ k)]
    rw [this]; exact h0
abbrev pairS (p : Int × Int) : List SV := [.int .i64 p.1, .int .i64 p.2]
theorem pr_get {l : List (Int × Int)} {i : Int} (h0 : 0 ≤ i) (h1 : i < l.length) : (l.map pairS)[i.toNat]? = some [SV.int .i64 (l.getD i.toNat (0, 0)).1, SV.int .i64 (l.getD i.toNat (0, 0)).2] := by
  have : i.toNat < l.length := by omega
  rw [List.getElem?_map, List.getElem?_eq_getElem this]
  simp [List.getD, List.getElem?_eq_getElem this]
theorem rtx_ok (ls : List Int) (a : Int) : rtOk (rtx ls a).1 (rtx ls a).2 = true := by
  have h0 := nxt_lo ls a 6
  have h1 := nxt_hi ls a 6 (by omega)
  have key : ∀ j : Nat, j < 6 → rtOk (rtl.getD j (0, 0)).1 (rtl.getD j (0, 0)).2 = true := by decide
  exact key _ (by omega)
theorem grate_s (ls : List Int) (at' : Int) (h0 : 0 ≤ at') (h1 : at' < 9223372036854775800) :
    OSpec Try.prog 40 [.ptr 0 0] [chs ls at'] fun s ho => s = rtE (rtx ls at').1 (rtx ls at').2 ∧ ho = [chs ls (at' + 1)] := by
  refine .of_code tab_ok Try.func40 (by rfl) rfl trivial ?_
  have n0 := nxt_lo ls at' 6
  have n1 := nxt_hi ls at' 6 (by omega)
  conv => whnf
  refine (next_s _ _ _ (by first | omega | assumption | decide | simp) (by first | omega | assumption | decide | simp) (by first | omega | assumption | decide | simp)).call [0] (by decide) (And.intro rfl trivial) (And.intro rfl trivial) ?_
  rintro _ _ ⟨rfl, rfl⟩
  conv => whnf
  refine ⟨by simp; omega, ?_⟩
  conv => whnf
  refine ⟨_, pr_get (l := rtl) n0 n1, ?_⟩
  conv => whnf
  refine ⟨by rfl, ?_⟩
  conv => whnf
def rty (ls : List Int) (a : Int) : Int × Int := if nxt ls (a + 1) 6 = 0 then ([(0, 0), (-1, 0), (10000001, 0), (1, -1), (1, 100001)] : List (Int × Int)).getD (nxt ls (a + 1 + 1) 5).toNat (0, 0) else rtx ls a
def rta (ls : List Int) (a : Int) : Int := if nxt ls (a + 1) 6 = 0 then a + 1 + 1 + 1 else a + 1 + 1
theorem rta_rng (ls : List Int) (a : Int) : a ≤ rta ls a ∧ rta ls a ≤ a + 3 := by unfold rta; split <;> omega
theorem lrate_s (ls : List Int) (at' : Int) (h0 : 0 ≤ at') (h1 : at' < 9223372036854775000) :
    OSpec Try.prog 35 [.ptr 0 0] [chs ls at'] fun s ho => s = rtE (rty ls at').1 (rty ls at').2 ∧ ho = [chs ls (rta ls at')] := by
  refine .of_code tab_ok Try.func35 (by rfl) rfl trivial ?_
  have n0 := nxt_lo ls (at' + 1 + 1) 5
  have n1 := nxt_hi ls (at' + 1 + 1) 5 (by omega)
  conv => whnf
  refine (grate_s _ _ (by first | omega | assumption | decide | simp) (by first | omega | assumption | decide | simp)).call [0] (by decide) trivial (And.intro rfl trivial) ?_
  rintro _ _ ⟨rfl, rfl⟩
  conv => whnf
  refine (next_s _ _ _ (by first | omega | assumption | decide | simp) (by first | omega | assumption | decide | simp) (by first | omega | assumption | decide | simp)).call [0] (by decide) (And.intro rfl trivial) (And.intro rfl trivial) ?_
  rintro _ _ ⟨rfl, rfl⟩
  conv => whnf
  refine ⟨fun hh20 => ?_, fun hh20 => ?_⟩
  · simp only [decide_eq_true_eq, decide_eq_false_iff_not] at hh20
    conv => whnf
    refine (next_s _ _ _ (by first | omega | assumption | decide | simp) (by first | omega | assumption | decide | simp) (by first | omega | assumption | decide | simp)).call [0] (by decide) (And.intro rfl trivial) (And.intro rfl trivial) ?_
    rintro _ _ ⟨rfl, rfl⟩
    conv => whnf
    refine ⟨by simp; omega, ?_⟩
    conv => whnf
    refine ⟨_, pr_get (l := [(0, 0), (-1, 0), (10000001, 0), (1, -1), (1, 100001)]) n0 n1, ?_⟩
    conv => whnf
    refine ⟨by (simp [rty, *]), ?_⟩
    conv => whnf
    (simp [rta, *])
  · simp only [decide_eq_true_eq, decide_eq_false_iff_not] at hh20
    conv => whnf
    refine ⟨by (simp [rty, *]), ?_⟩
    conv => whnf
    (simp [rta, *])
/-! ### Best -/
abbrev gr (l : List (Int × Int)) (i : Nat) : Int × Int := l.getD i (0, 0)
theorem gr_get {l : List (Int × Int)} {i : Nat} (h : i < l.length) : (l.map pairS)[(i : Int).toNat]? = some [SV.int .i64 (gr l i).1, SV.int .i64 (gr l i).2] := pr_get (by omega) (by omega)
def allR (l : List (Int × Int)) : Prop := ∀ i, i < l.length → rtOk (gr l i).1 (gr l i).2 = true
def bsO (l : List (Int × Int)) (b : Int) : Prop := l.length ≤ 12 ∧ (0 ≤ b ∧ b ≤ 262144) ∧ allR l
def tmG (l : List (Int × Int)) (b : Int) (i : Nat) : Int := tmv (gr l i).1 (gr l i).2 b
def btI (l : List (Int × Int)) (b : Int) : Nat → Nat
  | 0 => 0
  | i + 1 => if tmG l b i < tmG l b (btI l b i) then i else btI l b i
open Classical in
noncomputable def bsv (l : List (Int × Int)) (b : Int) : Int := if bsO l b then (btI l b l.length : Int) else 0
open Classical in
noncomputable def bse (l : List (Int × Int)) (b : Int) : Int := if bsO l b then (if l.length = 0 then 5 else 0) else 1
theorem bs_no {l : List (Int × Int)} {b : Int} (h : ¬ bsO l b) : bsv l b = 0 ∧ bse l b = 1 := by simp [bsv, bse, h]
theorem bs_yes {l : List (Int × Int)} {b : Int} (h : bsO l b) : bsv l b = (btI l b l.length : Int) ∧ bse l b = (if l.length = 0 then 5 else 0) := by simp [bsv, bse, h]
theorem btI_lt {l : List (Int × Int)} {b : Int} : ∀ i, 0 < i → btI l b i < i := by
  intro i
  induction i with
  | zero => intro h; omega
  | succ i ih =>
    intro _
    simp only [btI]
    split
    · omega
    · rcases Nat.eq_zero_or_pos i with h | h
      · subst h; simp [btI]
      · have := ih h; omega
theorem best_s (l : List (Int × Int)) (hlen : l.length ≤ 1000000) (b : Int) : PSpec Try.prog 71 [.rs 2 (l.map pairS), .int .i64 b] (· = .tup [.int .i64 (bsv l b), .int .i64 (bse l b)]) := by
  refine .of_code' tab_ok Try.func71 (by rfl) rfl trivial ?_
  have hl : (l.map pairS).length = l.length := by simp
  have bad : ¬ bsO l b → SV.tup [SV.int .i64 0, SV.int .i64 1] = SV.tup [SV.int .i64 (bsv l b), SV.int .i64 (bse l b)] := fun h => tup_ii (bs_no h).1.symm (bs_no h).2.symm
  conv => whnf
  refine ⟨fun c1 => ?_, fun c1 => ?_⟩
  · simp only [decide_eq_true_eq, decide_eq_false_iff_not] at c1
    conv => whnf
    exact bad fun h => by have := h.1; omega
  simp only [decide_eq_true_eq, decide_eq_false_iff_not] at c1
  conv => whnf
  refine ⟨fun c2 => ?_, fun c2 => ?_⟩
  · simp only [decide_eq_true_eq, decide_eq_false_iff_not] at c2
    conv => whnf
    exact bad fun h => by have := h.2.1; omega
  simp only [decide_eq_true_eq, decide_eq_false_iff_not] at c2
  conv => whnf
  refine ⟨fun c3 => ?_, fun c3 => ?_⟩
  · simp only [decide_eq_true_eq, decide_eq_false_iff_not] at c3
    conv => whnf
    exact bad fun h => by have := h.2.1; omega
  simp only [decide_eq_true_eq, decide_eq_false_iff_not] at c3
  conv => whnf
  refine LoopG.inv tab_ok 62 (fun i : { i : Nat // i ≤ l.length ∧ ∀ j, j < i → rtOk (gr l j).1 (gr l j).2 = true } => [(0, .rs 2 (l.map pairS)), (1, .int .i64 b), (25, .rs 2 (l.map pairS)), (26, .int .i64 ((l.map pairS).length : Int)), (27, .int .i64 (i.1 : Int))])
    (fun _ => []) (fun i => l.length - i.1) ⟨0, by omega, by intro j hj; omega⟩ (.of [] (by decide) ?_) ?_
  · conv => whnf
    refine ⟨by rfl, ?_⟩
    conv => whnf
    refine ⟨by rfl, ?_⟩
    conv => whnf
    refine ⟨by rfl, ?_⟩
    conv => whnf
    refine ⟨by rfl, ?_⟩
    conv => whnf
    refine ⟨by rfl, ?_⟩
    conv => whnf
    exact trivial
  · intro i
    obtain ⟨hi, hg⟩ := i.2
    conv => whnf
    refine ⟨fun hb => ?_, fun hb => ?_⟩
    · have hb : i.1 < l.length := by simpa [hl] using hb
      conv => whnf
      refine ⟨by omega, ?_⟩
      conv => whnf
      refine ⟨_, gr_get hb, ?_⟩
      conv => whnf
      refine (avalid_s _ _).call ?_
      rintro _ rfl
      conv => whnf
      refine ⟨fun hh11 => ?_, fun hh11 => ?_⟩
      · simp only [decide_eq_true_eq, decide_eq_false_iff_not, Bool.not_eq_true, Bool.not_eq_false, Bool.not_eq_true', Bool.not_eq_false', Bool.and_eq_true, Bool.and_eq_false_iff, Int.not_lt, Int.not_le, Decidable.not_not, beq_iff_eq, Bool.not_eq_eq_eq_not, Bool.not_true, Bool.not_false, beq_eq_false_iff_ne, ne_eq, decide_eq_decide] at hh11
        conv => whnf
        refine .same ?_
        conv => whnf
        exact bad fun h => by have := h.2.2 i.1 hb; simp_all
      · simp only [decide_eq_true_eq, decide_eq_false_iff_not, Bool.not_eq_true, Bool.not_eq_false, Bool.not_eq_true', Bool.not_eq_false', Bool.and_eq_true, Bool.and_eq_false_iff, Int.not_lt, Int.not_le, Decidable.not_not, beq_iff_eq, Bool.not_eq_eq_eq_not, Bool.not_true, Bool.not_false, beq_eq_false_iff_ne, ne_eq, decide_eq_decide] at hh11
        conv => whnf
        refine ⟨⟨i.1 + 1, by omega, fun j hj => (by rcases Nat.lt_succ_iff_lt_or_eq.1 hj with h | h; exact hg j h; (subst h; simp_all))⟩, by show l.length - (i.1 + 1) < l.length - i.1; omega, .of [] (by decide) ?_⟩
        conv => whnf
        refine ⟨by rfl, ?_⟩
        conv => whnf
        refine ⟨by rfl, ?_⟩
        conv => whnf
        refine ⟨by rfl, ?_⟩
        conv => whnf
        refine ⟨by rfl, ?_⟩
        conv => whnf
        refine ⟨by exact (w64 _ (by omega) (by omega)).trans (by simp), ?_⟩
        conv => whnf
        exact trivial
    · have hb : i.1 = l.length := by simp [hl] at hb; omega
      have hO : bsO l b := ⟨by omega, by omega, fun j hj => hg j (by omega)⟩
      obtain ⟨y1, y2⟩ := bs_yes hO
      conv => whnf
      refine .same ?_
      conv => whnf
      refine ⟨fun c4 => ?_, fun c4 => ?_⟩
      · have c4 : l.length = 0 := by simpa [hl] using c4
        conv => whnf
        exact tup_ii (by rw [y1, c4]; rfl) (by rw [y2, if_pos c4])
      have c4 : l.length ≠ 0 := by simpa [hl] using c4
      conv => whnf
      refine LoopG.inv tab_ok 62 (fun i : { i : Nat // i ≤ l.length } => [(1, .int .i64 b), (8, .int .i64 (btI l b i.1 : Int)), (9, .int .i64 (if i.1 = 0 then 0 else tmG l b (btI l b i.1))), (38, .rs 2 (l.map pairS)), (39, .int .i64 ((l.map pairS).length : Int)), (40, .int .i64 (i.1 : Int))])
        (fun _ => []) (fun i => l.length - i.1) ⟨0, by omega⟩ (.of [] (by decide) ?_) ?_
      · conv => whnf
        refine ⟨by rfl, ?_⟩
        conv => whnf
        refine ⟨by rfl, ?_⟩
        conv => whnf
        refine ⟨by rfl, ?_⟩
        conv => whnf
        refine ⟨by rfl, ?_⟩
        conv => whnf
        refine ⟨by rfl, ?_⟩
        conv => whnf
        refine ⟨by rfl, ?_⟩
        conv => whnf
        exact trivial
      · intro i
        have hi := i.2
        conv => whnf
        refine ⟨fun hb => ?_, fun hb => ?_⟩
        · have hb : i.1 < l.length := by simpa [hl] using hb
          have u1 : ∀ (h : (i.1 : Int) = 0 ∨ tmG l b i.1 < (if i.1 = 0 then 0 else tmG l b (btI l b i.1))), btI l b (i.1 + 1) = i.1 := by
            intro h
            by_cases hz : i.1 = 0
            · simp [hz, btI]
            · rw [if_neg hz] at h; simp only [btI]; rw [if_pos (h.resolve_left (by omega))]
          have u2 : ∀ (h : ¬ (i.1 : Int) = 0) (h2 : ¬ tmG l b i.1 < (if i.1 = 0 then 0 else tmG l b (btI l b i.1))), btI l b (i.1 + 1) = btI l b i.1 := by
            intro h h2
            rw [if_neg (by omega)] at h2; simp only [btI]; rw [if_neg h2]
          conv => whnf
          refine ⟨by omega, ?_⟩
          conv => whnf
          refine ⟨_, gr_get hb, ?_⟩
          conv => whnf
          refine (time_s _ _ _).call ?_
          rintro _ rfl
          conv => whnf
          refine ⟨fun hh11 => ?_, fun hh11 => ?_⟩
          · simp only [decide_eq_true_eq, decide_eq_false_iff_not] at hh11
            conv => whnf
            refine ⟨⟨i.1 + 1, by omega⟩, by show l.length - (i.1 + 1) < l.length - i.1; omega, .of [] (by decide) ?_⟩
            conv => whnf
            refine ⟨by rfl, ?_⟩
            conv => whnf
            refine ⟨by simp; omega, ?_⟩
            conv => whnf
            refine ⟨by (show _ = if i.1 + 1 = 0 then 0 else tmG l b (btI l b (i.1 + 1)); rw [if_neg (by omega), u1 (.inl (by omega))]; rfl), ?_⟩
            conv => whnf
            refine ⟨by rfl, ?_⟩
            conv => whnf
            refine ⟨by rfl, ?_⟩
            conv => whnf
            refine ⟨by exact (w64 _ (by omega) (by omega)).trans (by simp), ?_⟩
            conv => whnf
            exact trivial
          · simp only [decide_eq_true_eq, decide_eq_false_iff_not] at hh11
            conv => whnf
            refine ⟨fun hh13 => ?_, fun hh13 => ?_⟩
            · simp only [decide_eq_true_eq, decide_eq_false_iff_not] at hh13
              conv => whnf
              refine ⟨⟨i.1 + 1, by omega⟩, by show l.length - (i.1 + 1) < l.length - i.1; omega, .of [] (by decide) ?_⟩
              conv => whnf
              refine ⟨by rfl, ?_⟩
              conv => whnf
              refine ⟨by (rw [u1 (.inr (by assumption))]; done), ?_⟩
              conv => whnf
              refine ⟨by (show _ = if i.1 + 1 = 0 then 0 else tmG l b (btI l b (i.1 + 1)); rw [if_neg (by omega), u1 (.inr (by assumption))]; rfl), ?_⟩
              conv => whnf
              refine ⟨by rfl, ?_⟩
              conv => whnf
              refine ⟨by rfl, ?_⟩
              conv => whnf
              refine ⟨by exact (w64 _ (by omega) (by omega)).trans (by simp), ?_⟩
              conv => whnf
              exact trivial
            · simp only [decide_eq_true_eq, decide_eq_false_iff_not] at hh13
              conv => whnf
              refine ⟨⟨i.1 + 1, by omega⟩, by show l.length - (i.1 + 1) < l.length - i.1; omega, .of [] (by decide) ?_⟩
              conv => whnf
              refine ⟨by rfl, ?_⟩
              conv => whnf
              refine ⟨by (rw [u2 (by omega) (by assumption)]; done), ?_⟩
              conv => whnf
              refine ⟨by (show _ = if i.1 + 1 = 0 then 0 else tmG l b (btI l b (i.1 + 1)); rw [if_neg (by omega), if_neg (by omega), u2 (by omega) (by assumption)]; done), ?_⟩
              conv => whnf
              refine ⟨by rfl, ?_⟩
              conv => whnf
              refine ⟨by rfl, ?_⟩
              conv => whnf
              refine ⟨by exact (w64 _ (by omega) (by omega)).trans (by simp), ?_⟩
              conv => whnf
              exact trivial
        · have hb : i.1 = l.length := by simp [hl] at hb; omega
          conv => whnf
          refine .same ?_
          conv => whnf
          exact tup_ii (by rw [y1, hb]) (by rw [y2, if_neg c4])
theorem rbest_s (l : List (Int × Int)) (hlen : l.length ≤ 1000000) (b : Int) : PSpec Try.prog 72 [.rs 2 (l.map pairS), .int .i64 b] (· = .tup [.int .i64 (bsv l b), .int .i64 (bse l b)]) := by
  refine .of_code' tab_ok Try.func72 (by rfl) rfl trivial ?_
  have hl : (l.map pairS).length = l.length := by simp
  have bad : ¬ bsO l b → SV.tup [SV.int .i64 0, SV.int .i64 1] = SV.tup [SV.int .i64 (bsv l b), SV.int .i64 (bse l b)] := fun h => tup_ii (bs_no h).1.symm (bs_no h).2.symm
  conv => whnf
  refine LoopG.inv tab_ok 68 (fun i : { i : Nat // i ≤ l.length ∧ ∀ j, j < i → rtOk (gr l j).1 (gr l j).2 = true } => [(0, .rs 2 (l.map pairS)), (1, .int .i64 b), (6, .int .i64 (i.1 : Int))])
    (fun _ => []) (fun i => l.length - i.1) ⟨0, by omega, by intro j hj; omega⟩ (.of [] (by decide) ?_) ?_
  · conv => whnf
    refine ⟨by rfl, ?_⟩
    conv => whnf
    refine ⟨by rfl, ?_⟩
    conv => whnf
    refine ⟨by rfl, ?_⟩
    conv => whnf
    exact trivial
  · intro i
    obtain ⟨hi, hg⟩ := i.2
    conv => whnf
    refine ⟨fun hb => ?_, fun hb => ?_⟩
    · have hb : i.1 < l.length := by simpa [hl] using hb
      conv => whnf
      refine ⟨by omega, ?_⟩
      conv => whnf
      refine ⟨_, gr_get hb, ?_⟩
      conv => whnf
      refine (rvalid_s _ _).call ?_
      rintro _ rfl
      conv => whnf
      refine ⟨fun hh11 => ?_, fun hh11 => ?_⟩
      · simp only [decide_eq_true_eq, decide_eq_false_iff_not, Bool.not_eq_true, Bool.not_eq_false, Bool.not_eq_true', Bool.not_eq_false', Bool.and_eq_true, Bool.and_eq_false_iff, Int.not_lt, Int.not_le, Decidable.not_not, beq_iff_eq, Bool.not_eq_eq_eq_not, Bool.not_true, Bool.not_false, beq_eq_false_iff_ne, ne_eq, decide_eq_decide] at hh11
        conv => whnf
        refine .same ?_
        conv => whnf
        exact bad fun h => by have := h.2.2 i.1 hb; simp_all
      · simp only [decide_eq_true_eq, decide_eq_false_iff_not, Bool.not_eq_true, Bool.not_eq_false, Bool.not_eq_true', Bool.not_eq_false', Bool.and_eq_true, Bool.and_eq_false_iff, Int.not_lt, Int.not_le, Decidable.not_not, beq_iff_eq, Bool.not_eq_eq_eq_not, Bool.not_true, Bool.not_false, beq_eq_false_iff_ne, ne_eq, decide_eq_decide] at hh11
        conv => whnf
        refine ⟨⟨i.1 + 1, by omega, fun j hj => (by rcases Nat.lt_succ_iff_lt_or_eq.1 hj with h | h; exact hg j h; (subst h; simp_all))⟩, by show l.length - (i.1 + 1) < l.length - i.1; omega, .of [] (by decide) ?_⟩
        conv => whnf
        refine ⟨by rfl, ?_⟩
        conv => whnf
        refine ⟨by rfl, ?_⟩
        conv => whnf
        refine ⟨by exact (w64 _ (by omega) (by omega)).trans (by simp), ?_⟩
        conv => whnf
        exact trivial
    · have hb : i.1 = l.length := by simp [hl] at hb; omega
      conv => whnf
      refine .same ?_
      conv => whnf
      by_cases hO : bsO l b
      · obtain ⟨y1, y2⟩ := bs_yes hO
        have o1 := hO.1
        have o2 := hO.2.1
        by_cases c4 : l.length = 0
        · conv => whnf
          refine both_f (by simp; omega) ?_
          conv => whnf
          refine both_f (by simp; omega) ?_
          conv => whnf
          refine both_f (by simp; omega) ?_
          conv => whnf
          refine both_t (by simp [*]) ?_
          conv => whnf
          exact tup_ii (by rw [y1, c4]; rfl) (by rw [y2, if_pos c4])
        · refine both_f (by rw [hl]; exact decide_eq_false (by omega)) ?_
          conv => whnf
          refine both_f (by exact decide_eq_false (by omega)) ?_
          conv => whnf
          refine both_f (by exact decide_eq_false (by omega)) ?_
          conv => whnf
          refine both_f (by rw [hl]; exact decide_eq_false (by omega)) ?_
          conv => whnf
          refine LoopG.inv tab_ok 68 (fun i : { i : Nat // 1 ≤ i ∧ i ≤ l.length } => [(0, .rs 2 (l.map pairS)), (1, .int .i64 b), (7, .int .i64 (btI l b i.1 : Int)), (8, .int .i64 (i.1 : Int))])
            (fun _ => []) (fun i => l.length - i.1) ⟨1, by omega⟩ (.of [] (by decide) ?_) ?_
          · conv => whnf
            refine ⟨by rfl, ?_⟩
            conv => whnf
            refine ⟨by rfl, ?_⟩
            conv => whnf
            refine ⟨by simp [btI], ?_⟩
            conv => whnf
            refine ⟨by rfl, ?_⟩
            conv => whnf
            exact trivial
          · intro i
            obtain ⟨hi1, hi⟩ := i.2
            have hbt := btI_lt (l := l) (b := b) i.1 hi1
            conv => whnf
            refine ⟨fun hb => ?_, fun hb => ?_⟩
            · have hb : i.1 < l.length := by simpa [hl] using hb
              have u1 : ∀ (h : tmG l b i.1 < tmG l b (btI l b i.1)), btI l b (i.1 + 1) = i.1 := fun h => by simp only [btI]; rw [if_pos h]
              have u2 : ∀ (h : ¬ tmG l b i.1 < tmG l b (btI l b i.1)), btI l b (i.1 + 1) = btI l b i.1 := fun h => by simp only [btI]; rw [if_neg h]
              conv => whnf
              refine ⟨by omega, ?_⟩
              conv => whnf
              refine ⟨_, gr_get hb, ?_⟩
              conv => whnf
              refine (rtime_s _ _ _).call ?_
              rintro _ rfl
              conv => whnf
              refine ⟨by omega, ?_⟩
              conv => whnf
              refine ⟨_, gr_get (i := btI l b i.1) (by omega), ?_⟩
              conv => whnf
              refine (rtime_s _ _ _).call ?_
              rintro _ rfl
              conv => whnf
              refine ⟨fun hh22 => ?_, fun hh22 => ?_⟩
              · simp only [decide_eq_true_eq, decide_eq_false_iff_not] at hh22
                conv => whnf
                refine ⟨⟨i.1 + 1, by omega⟩, by show l.length - (i.1 + 1) < l.length - i.1; omega, .of [] (by decide) ?_⟩
                conv => whnf
                refine ⟨by rfl, ?_⟩
                conv => whnf
                refine ⟨by rfl, ?_⟩
                conv => whnf
                refine ⟨by (rw [u1 (by assumption)]; done), ?_⟩
                conv => whnf
                refine ⟨by exact (w64 _ (by omega) (by omega)).trans (by simp), ?_⟩
                conv => whnf
                exact trivial
              · simp only [decide_eq_true_eq, decide_eq_false_iff_not] at hh22
                conv => whnf
                refine ⟨⟨i.1 + 1, by omega⟩, by show l.length - (i.1 + 1) < l.length - i.1; omega, .of [] (by decide) ?_⟩
                conv => whnf
                refine ⟨by rfl, ?_⟩
                conv => whnf
                refine ⟨by rfl, ?_⟩
                conv => whnf
                refine ⟨by (rw [u2 (by assumption)]; done), ?_⟩
                conv => whnf
                refine ⟨by exact (w64 _ (by omega) (by omega)).trans (by simp), ?_⟩
                conv => whnf
                exact trivial
            · have hb : i.1 = l.length := by simp [hl] at hb; omega
              conv => whnf
              refine .same ?_
              conv => whnf
              exact tup_ii (by rw [y1, hb]) (by rw [y2, if_neg c4])
      · have h' : (l.length : Int) ≤ 12 → 0 ≤ b → b ≤ 262144 → False := fun p q r => hO ⟨by omega, ⟨q, r⟩, fun j hj => hg j (by omega)⟩
        conv => whnf
        refine ⟨fun hh0 => ?_, fun hh0 => ?_⟩
        · simp only [decide_eq_true_eq, decide_eq_false_iff_not] at hh0
          conv => whnf
          exact bad hO
        · simp only [decide_eq_true_eq, decide_eq_false_iff_not] at hh0
          conv => whnf
          refine ⟨fun hh1 => ?_, fun hh1 => ?_⟩
          · simp only [decide_eq_true_eq, decide_eq_false_iff_not] at hh1
            conv => whnf
            exact bad hO
          · simp only [decide_eq_true_eq, decide_eq_false_iff_not] at hh1
            conv => whnf
            refine ⟨fun hh2 => ?_, fun hh2 => ?_⟩
            · simp only [decide_eq_true_eq, decide_eq_false_iff_not] at hh2
              conv => whnf
              exact bad hO
            · simp only [decide_eq_true_eq, decide_eq_false_iff_not] at hh2
              conv => whnf
              refine ⟨fun hh3 => ?_, fun hh3 => ?_⟩
              · simp only [decide_eq_true_eq, decide_eq_false_iff_not] at hh3
                conv => whnf
                exact (h' (by omega) (by omega) (by omega)).elim
              · simp only [decide_eq_true_eq, decide_eq_false_iff_not] at hh3
                conv => whnf
                exact (h' (by omega) (by omega) (by omega)).elim
theorem lbest_s (l : List (Int × Int)) (hlen : l.length ≤ 1000000) (b : Int) : PSpec Try.prog 36 [.rs 2 (l.map pairS), .int .i64 b] (· = .bool true) := by
  refine .of_code' tab_ok Try.func36 (by rfl) rfl trivial ?_
  conv => whnf
  refine (best_s _ (by first | omega | assumption | decide | simp) _).call ?_
  rintro _ rfl
  conv => whnf
  refine (rbest_s _ (by first | omega | assumption | decide | simp) _).call ?_
  rintro _ rfl
  conv => whnf
  refine both_t (by simp) ?_
  conv => whnf
  simp
theorem best_aw : PSpec Try.prog 71 [.rs 2 [[.int .i64 1000, .int .i64 0], [.int .i64 6000, .int .i64 500]], .int .i64 100] (· = .tup [.int .i64 1, .int .i64 0]) := by
  have := best_s [(1000, 0), (6000, 500)] (by decide) 100
  have hO : bsO [(1000, 0), (6000, 500)] 100 := ⟨by decide, by decide, by intro i hi; match i with | 0 => decide | 1 => decide | i + 2 => simp at hi; omega⟩
  rw [(bs_yes hO).1, (bs_yes hO).2] at this
  exact this
theorem awake19_s : PSpec Try.prog 37 [] (· = .bool true) := by
  refine .of_code' tab_ok Try.func37 (by rfl) rfl trivial ?_
  have tv : tmv 6000 100 1500 = 2100 := by decide
  have te : tme 6000 100 1500 = 0 := by decide
  conv => whnf
  refine (time_s _ _ _).call ?_
  rintro _ rfl
  conv => whnf
  refine PSpec.lend best_aw ?_ ?_
  · conv => whnf
    refine ⟨rfl, ?_⟩
    conv => whnf
    refine ⟨rfl, ?_⟩
    conv => whnf
    exact trivial
  rintro _ rfl
  conv => whnf
  refine both_t rfl ?_
  conv => whnf
  refine both_t rfl ?_
  conv => whnf
  refine both_t rfl ?_
  conv => whnf
  rfl
theorem airtimeTime_s (ls : List Int) (p : Int × Int) (b : Int) : PSpec Try.prog 6 [.rs 1 (nums ls), rtE p.1 p.2, .int .i64 b] TrueS := by
  refine .of_code' tab_ok Try.func6 (by rfl) rfl trivial ?_
  conv => whnf
  refine CallG.of_code tab_ok Try.func15 (by rfl) rfl ?_
  conv => whnf
  refine LoopG.inv tab_ok 41 (fun x : { x : Nat × Int // x.1 ≤ 5 ∧ 0 ≤ x.2 ∧ x.2 ≤ 10 * x.1 } => [(2, .int .i64 b), (4, .ptr 0 0), (6, .ff), (7, .ptr 1 0), (8, .int .i64 (x.1.1 : Int))])
    (fun x => [.fix 52 [.int .i64 p.1, .int .i64 p.2], chs ls x.1.2]) (fun x => 5 - x.1.1) ⟨(0, 0), by decide⟩ (.of [some 0, some 1] (by rfl) ?_) ?_
  · conv => whnf
    refine ⟨by rfl, ?_⟩
    conv => whnf
    refine ⟨by rfl, ?_⟩
    conv => whnf
    refine ⟨by rfl, ?_⟩
    conv => whnf
    refine ⟨by rfl, ?_⟩
    conv => whnf
    refine ⟨by rfl, ?_⟩
    conv => whnf
    refine ⟨by rfl, ?_⟩
    conv => whnf
    exact trivial
  · intro x
    obtain ⟨hx1, hx2, hx3⟩ := x.2
    conv => whnf
    refine ⟨fun hb => ?_, fun hb => ?_⟩
    · have hb : (x.1.1 : Int) < 5 := by simpa using hb
      have r1 := rta_rng ls x.1.2
      have r2 := rta_rng ls (rta ls x.1.2 + 1)
      conv => whnf
      refine (lrate_s _ _ (by first | omega | assumption | decide | simp) (by first | omega | assumption | decide | simp)).call [1] (by decide) trivial (And.intro rfl trivial) ?_
      rintro _ _ ⟨rfl, rfl⟩
      conv => whnf
      refine (next_s _ _ _ (by first | omega | assumption | decide | simp) (by first | omega | assumption | decide | simp) (by first | omega | assumption | decide | simp)).call [1] (by decide) (And.intro rfl trivial) (And.intro rfl trivial) ?_
      rintro _ _ ⟨rfl, rfl⟩
      conv => whnf
      refine ⟨by exact ⟨nxt_lo _ _ _, nxt_hi _ _ _ (by omega)⟩, ?_⟩
      conv => whnf
      refine ⟨_, lit_get (l := [0, 1, 1500, 262144, 262145, -1]) (nxt_lo _ _ _) (nxt_hi _ _ _ (by decide)), ?_⟩
      conv => whnf
      refine (times_s _ _ _).call ?_
      rintro _ rfl
      conv => whnf
      refine both_f rfl ?_
      conv => whnf
      refine (lrate_s _ _ (by first | omega | assumption | decide | simp) (by first | omega | assumption | decide | simp)).call [1] (by decide) trivial (And.intro rfl trivial) ?_
      rintro _ _ ⟨rfl, rfl⟩
      conv => whnf
      refine (times_s _ _ _).call ?_
      rintro _ rfl
      conv => whnf
      refine both_f rfl ?_
      conv => whnf
      refine ⟨⟨(x.1.1 + 1, rta ls (rta ls x.1.2 + 1)), by show x.1.1 + 1 ≤ 5; omega, by show 0 ≤ rta ls (rta ls x.1.2 + 1); omega, by show rta ls (rta ls x.1.2 + 1) ≤ 10 * ((x.1.1 + 1 : Nat) : Int); omega⟩, by show 5 - (x.1.1 + 1) < 5 - x.1.1; omega, .of [some 0, some 1] (by rfl) ?_⟩
      conv => whnf
      refine ⟨by rfl, ?_⟩
      conv => whnf
      refine ⟨by exact (w64 _ (by omega) (by omega)).trans (by simp), ?_⟩
      conv => whnf
      refine ⟨by rfl, ?_⟩
      conv => whnf
      refine ⟨by rfl, ?_⟩
      conv => whnf
      refine ⟨by rfl, ?_⟩
      conv => whnf
      refine ⟨by rfl, ?_⟩
      conv => whnf
      exact trivial
    · conv => whnf
      refine .same ?_
      conv => whnf
      refine (times_s _ _ _).call ?_
      rintro _ rfl
      conv => whnf
      refine both_t rfl ?_
      conv => whnf
      refine (times_s _ _ _).call ?_
      rintro _ rfl
      conv => whnf
      refine both_t rfl ?_
      conv => whnf
      refine (awake19_s).call ?_
      rintro _ rfl
      conv => whnf
theorem airtimeFit_s (ls : List Int) (p : Int × Int) (t : Int) (ht0 : -9223372036854775808 ≤ t) (ht1 : t ≤ 9223372036854775807) : PSpec Try.prog 7 [.rs 1 (nums ls), rtE p.1 p.2, .int .i64 t] TrueS := by
  refine .of_code' tab_ok Try.func7 (by rfl) rfl trivial ?_
  conv => whnf
  refine CallG.of_code tab_ok Try.func15 (by rfl) rfl ?_
  conv => whnf
  refine LoopG.inv tab_ok 37 (fun x : { x : Nat × Int // x.1 ≤ 5 ∧ 0 ≤ x.2 ∧ x.2 ≤ 10 * x.1 } => [(2, .int .i64 t), (4, .ptr 0 0), (6, .ff), (7, .ptr 1 0), (8, .int .i64 (x.1.1 : Int))])
    (fun x => [.fix 52 [.int .i64 p.1, .int .i64 p.2], chs ls x.1.2]) (fun x => 5 - x.1.1) ⟨(0, 0), by decide⟩ (.of [some 0, some 1] (by rfl) ?_) ?_
  · conv => whnf
    refine ⟨by rfl, ?_⟩
    conv => whnf
    refine ⟨by rfl, ?_⟩
    conv => whnf
    refine ⟨by rfl, ?_⟩
    conv => whnf
    refine ⟨by rfl, ?_⟩
    conv => whnf
    refine ⟨by rfl, ?_⟩
    conv => whnf
    refine ⟨by rfl, ?_⟩
    conv => whnf
    exact trivial
  · intro x
    obtain ⟨hx1, hx2, hx3⟩ := x.2
    conv => whnf
    refine ⟨fun hb => ?_, fun hb => ?_⟩
    · have hb : (x.1.1 : Int) < 5 := by simpa using hb
      have hr8 := getD_rng (lo := -9223372036854775808) (hi := 9223372036854775807) (l := [0, 1, 99, 100, 2100, 100000, 1099511627776, -1]) (by decide) (by decide) (nxt ls (rta ls x.1.2) 8).toNat
      have ht := And.intro ht0 ht1
      have r1 := rta_rng ls x.1.2
      have r2 := rta_rng ls (rta ls x.1.2 + 1)
      conv => whnf
      refine (lrate_s _ _ (by first | omega | assumption | decide | simp) (by first | omega | assumption | decide | simp)).call [1] (by decide) trivial (And.intro rfl trivial) ?_
      rintro _ _ ⟨rfl, rfl⟩
      conv => whnf
      refine (next_s _ _ _ (by first | omega | assumption | decide | simp) (by first | omega | assumption | decide | simp) (by first | omega | assumption | decide | simp)).call [1] (by decide) (And.intro rfl trivial) (And.intro rfl trivial) ?_
      rintro _ _ ⟨rfl, rfl⟩
      conv => whnf
      refine ⟨by exact ⟨nxt_lo _ _ _, nxt_hi _ _ _ (by omega)⟩, ?_⟩
      conv => whnf
      refine ⟨_, lit_get (l := [0, 1, 99, 100, 2100, 100000, 1099511627776, -1]) (nxt_lo _ _ _) (nxt_hi _ _ _ (by decide)), ?_⟩
      conv => whnf
      refine (fits_s _ _ _ (by first | omega | assumption | decide | simp)).call ?_
      rintro _ rfl
      conv => whnf
      refine both_f rfl ?_
      conv => whnf
      refine (lrate_s _ _ (by first | omega | assumption | decide | simp) (by first | omega | assumption | decide | simp)).call [1] (by decide) trivial (And.intro rfl trivial) ?_
      rintro _ _ ⟨rfl, rfl⟩
      conv => whnf
      refine (fits_s _ _ _ (by first | omega | assumption | decide | simp)).call ?_
      rintro _ rfl
      conv => whnf
      refine both_f rfl ?_
      conv => whnf
      refine ⟨⟨(x.1.1 + 1, rta ls (rta ls x.1.2 + 1)), by show x.1.1 + 1 ≤ 5; omega, by show 0 ≤ rta ls (rta ls x.1.2 + 1); omega, by show rta ls (rta ls x.1.2 + 1) ≤ 10 * ((x.1.1 + 1 : Nat) : Int); omega⟩, by show 5 - (x.1.1 + 1) < 5 - x.1.1; omega, .of [some 0, some 1] (by rfl) ?_⟩
      conv => whnf
      refine ⟨by rfl, ?_⟩
      conv => whnf
      refine ⟨by exact (w64 _ (by omega) (by omega)).trans (by simp), ?_⟩
      conv => whnf
      refine ⟨by rfl, ?_⟩
      conv => whnf
      refine ⟨by rfl, ?_⟩
      conv => whnf
      refine ⟨by rfl, ?_⟩
      conv => whnf
      refine ⟨by rfl, ?_⟩
      conv => whnf
      exact trivial
    · have ht := And.intro ht0 ht1
      conv => whnf
      refine .same ?_
      conv => whnf
      refine (fits_s _ _ _ (by first | omega | assumption | decide | simp)).call ?_
      rintro _ rfl
      conv => whnf
      refine both_t rfl ?_
      conv => whnf
      refine (awake19_s).call ?_
      rintro _ rfl
      conv => whnf
theorem ftv_ok {k o t : Int} (h : rtOk k o = true) : (o ≤ t → fte k o t = 0 ∧ ftv k o t = ftq k o t) ∧ (¬ o ≤ t → fte k o t = 2) := by
  refine ⟨fun p => ?_, fun p => ?_⟩ <;> simp [fte, ftv, h, p]
theorem tm_at {k o b : Int} (h : rtOk k o = true) (h0 : 0 ≤ b) (h1 : b ≤ 262144) : tmv k o b = tmq k o b ∧ tme k o b = 0 := tm_yes ((tmO_iff _ _ _).2 ⟨(rtOk_iff k o).1 h, h0, h1⟩)
theorem tmq_le {k o x y : Int} (hk : 1 ≤ k) (h : x ≤ y) : tmq k o x ≤ tmq k o y := by
  have : (8000 * x + k - 1) / k ≤ (8000 * y + k - 1) / k := Int.ediv_le_ediv (by omega) (by omega)
  unfold tmq; omega
theorem airtimeInverse_s (ls : List Int) (t b : Int) (ht0 : 0 ≤ t) (ht1 : t < 4294967296) (hb0 : 0 ≤ b) (hb1 : b < 4294967296) : PSpec Try.prog 8 [.rs 1 (nums ls), .int .u32 t, .int .u32 b] TrueS := by
  refine .of_code' tab_ok Try.func8 (by rfl) rfl trivial ?_
  have hr := rtx_ok ls 0
  obtain ⟨⟨k0, k1⟩, o0, o1⟩ := (rtOk_iff _ _).1 hr
  have et : IntKind.i64.wrap t = t := w64 _ (by omega) (by omega)
  have htt : -9223372036854775808 ≤ t ∧ t ≤ 9223372036854775807 := by omega
  obtain ⟨f1, f2⟩ := ftv_ok (t := t) hr
  conv => whnf
  refine CallG.of_code tab_ok Try.func15 (by rfl) rfl ?_
  conv => whnf
  refine (grate_s ls 0 (by omega) (by omega)).call [0] (by decide) trivial (And.intro rfl trivial) ?_
  rintro _ _ ⟨rfl, rfl⟩
  generalize hK : (rtx ls 0).1 = k at *
  generalize hO : (rtx ls 0).2 = o at *
  conv => whnf
  rw [et]
  refine (fit_s k o t htt).call ?_
  rintro _ rfl
  by_cases hot : o ≤ t
  · obtain ⟨g1, g2⟩ := f1 hot
    have fr := ftq_rng hr hot
    have inv := fun m => ft_inv hr hot (m := m)
    have m1 := (inv (ftq k o t) fr.1 fr.2).2 (by omega)
    obtain ⟨a1, a2⟩ := tm_at hr fr.1 fr.2
    have en : IntKind.i64.wrap (ftq k o t + 1) = ftq k o t + 1 := w64 _ (by omega) (by omega)
    rw [g1, g2]
    have eb1 : b.tmod 262144 = b % 262144 := Int.tmod_eq_emod_of_nonneg hb0
    have eb : IntKind.i64.wrap (b.tmod 262144) = b % 262144 := by rw [eb1, w64 _ (by omega) (by omega)]
    have ebp : IntKind.i64.wrap (b % 262144 + 1) = b % 262144 + 1 := w64 _ (by omega) (by omega)
    obtain ⟨c1, c2⟩ := tm_at hr (b := b % 262144) (by omega) (by omega)
    obtain ⟨d1, d2⟩ := tm_at hr (b := b % 262144 + 1) (by omega) (by omega)
    have le := tmq_le (o := o) (x := b % 262144) (y := b % 262144 + 1) k0 (by omega)
    have up : ftq k o t < 262144 → tme k o (ftq k o t + 1) = 0 ∧ ¬ tmv k o (ftq k o t + 1) ≤ t := fun hlt => by
      obtain ⟨e1, e2⟩ := tm_at hr (b := ftq k o t + 1) (by omega) (by omega)
      refine ⟨e2, fun hle => ?_⟩
      rw [e1] at hle
      have := (inv (ftq k o t + 1) (by omega) (by omega)).1 hle
      omega
    conv => whnf
    refine both_f rfl ?_
    conv => whnf
    refine (time_s _ _ _).call ?_
    rintro _ rfl
    conv => whnf
    refine both_f rfl ?_
    conv => whnf
    refine both_f (by simp; omega) ?_
    conv => whnf
    refine both_f (by simp; omega) ?_
    conv => whnf
    refine (time_s _ _ _).call ?_
    rintro _ rfl
    conv => whnf
    refine ⟨fun hh20 => ?_, fun hh20 => ?_⟩
    · simp only [decide_eq_true_eq, decide_eq_false_iff_not] at hh20
      conv => whnf
      refine both_f (by simp [*]) ?_
      conv => whnf
      refine both_f (by simp [*]) ?_
      conv => whnf
      refine ⟨by omega, ?_⟩
      conv => whnf
      refine (time_s _ _ _).call ?_
      rintro _ rfl
      conv => whnf
      refine (time_s _ _ _).call ?_
      rintro _ rfl
      conv => whnf
      refine both_t (by rw [eb, c2]; rfl) ?_
      conv => whnf
      refine both_t (by rw [eb, ebp, d2]; rfl) ?_
      conv => whnf
      refine both_t (by rw [eb, ebp, c1, d1]; simp; omega) ?_
      conv => whnf
      refine (awake19_s).call ?_
      rintro _ rfl
      conv => whnf
    · simp only [decide_eq_true_eq, decide_eq_false_iff_not] at hh20
      conv => whnf
      refine ⟨by omega, ?_⟩
      conv => whnf
      refine (time_s _ _ _).call ?_
      rintro _ rfl
      conv => whnf
      refine (time_s _ _ _).call ?_
      rintro _ rfl
      conv => whnf
      refine both_t (by rw [eb, c2]; rfl) ?_
      conv => whnf
      refine both_t (by rw [eb, ebp, d2]; rfl) ?_
      conv => whnf
      refine both_t (by rw [eb, ebp, c1, d1]; simp; omega) ?_
      conv => whnf
      refine (awake19_s).call ?_
      rintro _ rfl
      conv => whnf
  · rw [f2 hot]
    conv => whnf
    refine both_t rfl ?_
    conv => whnf
    refine both_t (by simp; omega) ?_
    conv => whnf
    refine (awake19_s).call ?_
    rintro _ rfl
    conv => whnf
end Go.Proofs.Ythlomoacacebead

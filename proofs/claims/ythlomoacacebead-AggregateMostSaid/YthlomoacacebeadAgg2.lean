/- Build and Most of package aggregate and of its reference. No statement of the seat is proved here. -/
import Derived.Test.YthlomoacacebeadAgg
namespace Go.Proofs.Ythlomoacacebead
open Go.Sx
set_option linter.unusedSimpArgs false
set_option linter.unusedVariables false
theorem getD_take {ls : List Int} {n i : Nat} (h : i < n) : (ls.take n).getD i 0 = ls.getD i 0 := by
  simp [List.getD, List.getElem?_take, h]
theorem nums_take (ls : List Int) (n : Nat) : (nums ls).take n = nums (ls.take n) := by simp [nums, List.map_take]
theorem lnO_take {ls : List Int} (h : lnO ls) (n : Nat) : lnO (ls.take n) := by
  intro i hi
  have hi' : i < n ∧ i < ls.length := by simp at hi; omega
  rw [getD_take hi'.1]; exact h i hi'.2
theorem szS_take {ls : List Int} {n : Nat} : ∀ i, i ≤ n → szS (ls.take n) i = szS ls i := by
  intro i
  induction i with
  | zero => intro _; rfl
  | succ i ih => intro hi; simp only [szS]; rw [ih (by omega), getD_take (by omega)]
/-- The first k lengths are permitted together. -/
def pmK (ls : List Int) (p b t k o : Int) (n : Nat) : Prop := n ≤ 32 ∧ n ≠ 0 ∧ (n : Int) ≤ p ∧ szS ls n ≤ b ∧ tmq k o (szS ls n) ≤ t
theorem pmO_take {ls : List Int} (h : lnO ls) {p b t k o : Int} {n : Nat} (hn : n ≤ ls.length) : pmO (ls.take n) p b t k o ↔ pmK ls p b t k o n := by
  have e : (ls.take n).length = n := by simp; omega
  unfold pmO pmK szO
  rw [e, szS_take n (Nat.le_refl _)]
  have := lnO_take h n
  constructor
  · rintro ⟨⟨a, b⟩, c⟩; exact ⟨a, c⟩
  · rintro ⟨a, c⟩; exact ⟨⟨a, this⟩, c⟩
theorem tmq_mono {k o x y : Int} (hk : 1 ≤ k) (h : x ≤ y) : tmq k o x ≤ tmq k o y := by
  have : (8000 * x + k - 1) / k ≤ (8000 * y + k - 1) / k := Int.ediv_le_ediv (by omega) (by omega)
  unfold tmq; omega
theorem pmK_down {ls : List Int} (h : lnO ls) {p b t k o : Int} (hk : 1 ≤ k) {n m : Nat} (hn : n ≤ ls.length) (hm : m ≤ n) (m0 : m ≠ 0) (hp : pmK ls p b t k o n) : pmK ls p b t k o m := by
  have mono : ∀ j, m ≤ j → j ≤ n → szS ls m ≤ szS ls j := by
    intro j
    induction j with
    | zero => intro a b; have : m = 0 := by omega
              subst this; omega
    | succ j ih =>
      intro a b
      by_cases e : m = j + 1
      · subst e; omega
      · have := ih (by omega) (by omega)
        have := h j (by omega)
        simp only [szS]; omega
  have s := mono n hm (Nat.le_refl _)
  obtain ⟨a1, a2, a3, a4, a5⟩ := hp
  have := tmq_mono (o := o) hk s
  exact ⟨by omega, m0, by omega, by omega, by omega⟩
open Classical in
/-- The last permitted beginning among those of at most n lengths. -/
noncomputable def bdN (ls : List Int) (p b t k o : Int) : Nat → Nat
  | 0 => 0
  | n + 1 => if pmK ls p b t k o (n + 1) then n + 1 else bdN ls p b t k o n
def bdM (ls : List Int) : Nat := if ls.length ≤ 32 then ls.length else 32
noncomputable def bdR (ls : List Int) (p b t k o : Int) : Nat := bdN ls p b t k o (bdM ls)
noncomputable def bdT (ls : List Int) (p b t k o : Int) : Int := if bdR ls p b t k o = 0 then 0 else tmq k o (szS ls (bdR ls p b t k o))
def bdO (ls : List Int) (p b t k o : Int) : Prop := cpOk p b t = true ∧ rtOk k o = true ∧ ls.length ≤ 128 ∧ lnO ls
open Classical in
noncomputable def bdv1 (ls : List Int) (p b t k o : Int) : Int := if bdO ls p b t k o then (bdR ls p b t k o : Int) else 0
open Classical in
noncomputable def bdv2 (ls : List Int) (p b t k o : Int) : Int := if bdO ls p b t k o then bdT ls p b t k o else 0
open Classical in
noncomputable def bde (ls : List Int) (p b t k o : Int) : Int := if bdO ls p b t k o then (if ls.length = 0 then 5 else 0) else 1
theorem bd_no {ls : List Int} {p b t k o : Int} (h : ¬ bdO ls p b t k o) : bdv1 ls p b t k o = 0 ∧ bdv2 ls p b t k o = 0 ∧ bde ls p b t k o = 1 := by simp [bdv1, bdv2, bde, h]
theorem bd_yes {ls : List Int} {p b t k o : Int} (h : bdO ls p b t k o) : bdv1 ls p b t k o = (bdR ls p b t k o : Int) ∧ bdv2 ls p b t k o = bdT ls p b t k o ∧ bde ls p b t k o = (if ls.length = 0 then 5 else 0) := by simp [bdv1, bdv2, bde, h]
theorem bdN_at {ls : List Int} {p b t k o : Int} {n : Nat} : ∀ m, n ≤ m → (n = 0 ∨ pmK ls p b t k o n) → (∀ j, n < j → j ≤ m → ¬ pmK ls p b t k o j) → bdN ls p b t k o m = n := by
  intro m
  induction m with
  | zero => intro a b c; simp [bdN]; omega
  | succ m ih =>
    intro a b c
    simp only [bdN]
    by_cases e : n = m + 1
    · subst e
      rw [if_pos (b.resolve_left (by omega))]
    · rw [if_neg (c (m + 1) (by omega) (Nat.le_refl _))]
      exact ih (by omega) b fun j h1 h2 => c j h1 (by omega)
theorem bdR_stop {ls : List Int} (h : lnO ls) {p b t k o : Int} (hk : 1 ≤ k) (hp : p ≤ 32) {n : Nat} (hn : n ≤ ls.length) (hnp : (n : Int) ≤ p) (hpm : n = 0 ∨ pmK ls p b t k o n) (hst : (n : Int) = p ∨ n = ls.length ∨ ¬ pmK ls p b t k o (n + 1)) : bdR ls p b t k o = n := by
  refine bdN_at _ (by unfold bdM; split <;> omega) hpm fun j h1 h2 hj => ?_
  have hjl : j ≤ ls.length := by unfold bdM at h2; split at h2 <;> omega
  rcases hst with e | e | e
  · have := hj.2.2.1; omega
  · omega
  · exact e (pmK_down h hk hjl (by omega) (by omega) hj)
theorem bdN_spec {ls : List Int} {p b t k o : Int} : ∀ m, bdN ls p b t k o m ≤ m ∧ (bdN ls p b t k o m = 0 ∨ pmK ls p b t k o (bdN ls p b t k o m)) := by
  intro m
  induction m with
  | zero => simp [bdN]
  | succ m ih =>
    simp only [bdN]
    split
    · rename_i h; exact ⟨Nat.le_refl _, .inr h⟩
    · exact ⟨by omega, ih.2⟩
theorem tup_iii {a b c x y z : Int} (h1 : a = x) (h2 : b = y) (h3 : c = z) : SV.tup [.int .i64 a, .int .i64 b, .int .i64 c] = .tup [.int .i64 x, .int .i64 y, .int .i64 z] := by rw [h1, h2, h3]
theorem sl_key {ls : List Int} {n : Nat} {z : Int} (hz : z = n) : (List.drop (Int.toNat 0) (List.take z.toNat (nums ls))) = nums (ls.take n) := by
  subst hz; rw [Int.toNat_natCast, nums_take]; rfl
theorem fitting_e {es : List (List SV)} {ls : List Int} (h : es = nums ls) (hlen : ls.length ≤ 1000000) (p b t k o : Int) (hr : rtOk k o = true) (hb : b ≤ 262144) : PSpec Try.prog 85 [.rs 1 es, cpE p b t, rtE k o] (· = .tup [.int .i64 (fgv ls p b t k o), .bool (fgb ls p b t k o)]) := by
  subst h; exact fitting_s ls hlen p b t k o hr hb
theorem rpermitted_e {es : List (List SV)} {ls : List Int} (h : es = nums ls) (hlen : ls.length ≤ 1000000) (p b t k o : Int) : PSpec Try.prog 83 [.rs 1 es, cpE p b t, rtE k o] (· = .bool (pmB ls p b t k o)) := by
  subst h; exact rpermitted_s ls hlen p b t k o
theorem rsize_e {es : List (List SV)} {ls : List Int} (h : es = nums ls) (hlen : ls.length ≤ 1000000) : PSpec Try.prog 81 [.rs 1 es] (· = .tup [.int .i64 (szv ls), .int .i64 (sze ls)]) := by
  subst h; exact rsize_s ls hlen
theorem build_s (ls : List Int) (hlen : ls.length ≤ 1000000) (p b t k o : Int) : PSpec Try.prog 52 [.rs 1 (nums ls), cpE p b t, rtE k o] (· = .tup [.int .i64 (bdv1 ls p b t k o), .int .i64 (bdv2 ls p b t k o), .int .i64 (bde ls p b t k o)]) := by
  refine .of_code' tab_ok Try.func52 (by rfl) rfl trivial ?_
  have hl := nums_len ls
  by_cases hO : bdO ls p b t k o
  · obtain ⟨y1, y2, y3⟩ := bd_yes hO
    obtain ⟨hc, hr, h8, hn⟩ := hO
    have hn' := lnB_yes hn
    obtain ⟨⟨p0, p1⟩, ⟨b0, b1⟩, t0, t1⟩ := (cpOk_iff _ _ _).1 hc
    obtain ⟨⟨k0, k1⟩, o0, o1⟩ := (rtOk_iff _ _).1 hr
    by_cases h0 : ls.length = 0
    · have z1 : bdR ls p b t k o = 0 := by unfold bdR bdM; rw [h0]; rfl
      conv => whnf
      refine (gvalid_s _ _ _).call ?_
      rintro _ rfl
      conv => whnf
      refine both_f (by simp; omega) ?_
      conv => whnf
      refine (avalid_s _ _).call ?_
      rintro _ rfl
      conv => whnf
      refine both_f (by simp; omega) ?_
      conv => whnf
      refine both_f (by simp; omega) ?_
      conv => whnf
      refine (sound_s _ (by first | omega | assumption | decide | simp)).call ?_
      rintro _ rfl
      conv => whnf
      refine both_f (by simp; omega) ?_
      conv => whnf
      refine both_t (by simp [*]) ?_
      conv => whnf
      exact tup_iii (by rw [y1, z1]; rfl) (by rw [y2, bdT, if_pos z1]) (by rw [y3, if_pos h0])
    · conv => whnf
      refine (gvalid_s _ _ _).call ?_
      rintro _ rfl
      conv => whnf
      refine both_f (by rw [hc]; rfl) ?_
      conv => whnf
      refine (avalid_s _ _).call ?_
      rintro _ rfl
      conv => whnf
      refine both_f (by rw [hr]; rfl) ?_
      conv => whnf
      refine both_f (by rw [hl]; exact decide_eq_false (by omega)) ?_
      conv => whnf
      refine (sound_s _ (by first | omega | assumption | decide | simp)).call ?_
      rintro _ rfl
      conv => whnf
      refine both_f (by rw [hn']; rfl) ?_
      conv => whnf
      refine both_f (by rw [hl]; exact decide_eq_false (by omega)) ?_
      conv => whnf
      refine LoopG.inv tab_ok 60 (fun n : { n : Nat // n ≤ ls.length ∧ (n : Int) ≤ p ∧ (n = 0 ∨ pmK ls p b t k o n) } => [(0, .rs 1 (nums ls)), (4, .ptr 0 0), (5, .ptr 1 0), (9, .int .i64 (n.1 : Int)), (10, .int .i64 (if n.1 = 0 then 0 else tmq k o (szS ls n.1)))])
        (fun _ => [.fix 68 [.int .i64 p, .int .i64 b, .int .i64 t], .fix 52 [.int .i64 k, .int .i64 o]]) (fun n => ls.length - n.1) ⟨0, by omega, by omega, .inl rfl⟩ (.of [some 0, some 1] (by decide) ?_) ?_
      · conv => whnf
        refine ⟨by rfl, ?_⟩
        conv => whnf
        refine ⟨by rfl, ?_⟩
        conv => whnf
        refine ⟨by rfl, ?_⟩
        conv => whnf
        refine ⟨by rfl, ?_⟩
        conv => whnf
        refine ⟨by rfl, ?_⟩
        conv => whnf
        refine ⟨by rfl, ?_⟩
        conv => whnf
        refine ⟨by rfl, ?_⟩
        conv => whnf
        refine ⟨by rfl, ?_⟩
        conv => whnf
        exact trivial
      · intro n
        obtain ⟨hi, hp, hk⟩ := n.2
        have fin : ∀ (h : (n.1 : Int) = p ∨ n.1 = ls.length ∨ ¬ pmK ls p b t k o (n.1 + 1)), SV.tup [.int .i64 (n.1 : Int), .int .i64 (if n.1 = 0 then 0 else tmq k o (szS ls n.1)), .int .i64 0] = .tup [.int .i64 (bdv1 ls p b t k o), .int .i64 (bdv2 ls p b t k o), .int .i64 (bde ls p b t k o)] := fun h => by
          have e := bdR_stop hn k0 p1 hi hp hk h
          exact tup_iii (by rw [y1, e]) (by rw [y2, bdT, e]) (by rw [y3, if_neg h0])
        conv => whnf
        refine ⟨fun hb => ?_, fun hb => ?_⟩
        · have hb : (n.1 : Int) < ls.length ∧ (n.1 : Int) < p := by rw [hl] at hb; simp only [decide_eq_true_eq] at hb; split at hb <;> omega
          have e1 : IntKind.i64.wrap ((n.1 : Int) + 1) = ((n.1 + 1 : Nat) : Int) := by rw [w64 _ (by omega) (by omega)]; omega
          have ek : fgb (ls.take (n.1 + 1)) p b t k o = true ↔ pmK ls p b t k o (n.1 + 1) := by rw [← pmO_take hn (by omega)]; simp [fgb]
          have hq : ((ls.take (n.1 + 1)).length : Int) = n.1 + 1 := by simp; omega
          have hs : szS (ls.take (n.1 + 1)) (n.1 + 1) = szS ls (n.1 + 1) := szS_take _ (Nat.le_refl _)
          have hv : pmK ls p b t k o (n.1 + 1) → fgv (ls.take (n.1 + 1)) p b t k o = tmq k o (szS ls (n.1 + 1)) := fun h => by
            have h2 := (pmO_take hn (by omega)).2 h
            have e := (fg_yes t k o (p := p) (b := b) (ls := ls.take (n.1 + 1)) ⟨h2.1, h2.2.1, h2.2.2.1, h2.2.2.2.1⟩).1
            rw [e, show (ls.take (n.1 + 1)).length = n.1 + 1 by omega, hs]
          conv => whnf
          refine DrawG.of mixed tab_ok ?_
          conv => whnf
          refine ⟨by rw [hl]; exact ⟨by omega, by omega, by omega⟩, ?_⟩
          conv => whnf
          refine (fitting_e (ls := ls.take (n.1 + 1)) (by exact sl_key e1) (by omega) p b t k o hr b1).calld ?_
          conv => whnf
          refine ⟨by kernel_rfl, ?_⟩
          conv => whnf
          refine ⟨fun hf => ?_, fun hf => ?_⟩
          · have hf : ¬ pmK ls p b t k o (n.1 + 1) := fun h => by rw [ek.2 h] at hf; simp at hf
            conv => whnf
            refine .same ?_
            conv => whnf
            exact fin (.inr (.inr hf))
          · have hf : pmK ls p b t k o (n.1 + 1) := ek.1 (by simpa using hf)
            conv => whnf
            refine ⟨⟨n.1 + 1, by omega, by omega, .inr hf⟩, by show ls.length - (n.1 + 1) < ls.length - n.1; omega, .of [some 0, some 1] (by decide) ?_⟩
            conv => whnf
            refine ⟨by rfl, ?_⟩
            conv => whnf
            refine ⟨by omega, ?_⟩
            conv => whnf
            refine ⟨by simp [*], ?_⟩
            conv => whnf
            refine ⟨by rfl, ?_⟩
            conv => whnf
            refine ⟨by rfl, ?_⟩
            conv => whnf
            refine ⟨by rfl, ?_⟩
            conv => whnf
            refine ⟨by rfl, ?_⟩
            conv => whnf
            refine ⟨by rfl, ?_⟩
            conv => whnf
            exact trivial
        · have hb : (n.1 : Int) = p ∨ n.1 = ls.length := by rw [hl] at hb; simp only [decide_eq_false_iff_not] at hb; split at hb <;> omega
          conv => whnf
          refine .same ?_
          conv => whnf
          exact fin (by rcases hb with h | h; exact .inl h; exact .inr (.inl h))
  · obtain ⟨y1, y2, y3⟩ := bd_no hO
    have h' : cpOk p b t = true → rtOk k o = true → (ls.length : Int) ≤ 128 → lnB ls = true → False := fun q1 q2 q3 q4 => hO ⟨q1, q2, by omega, by simpa [lnB] using q4⟩
    conv => whnf
    refine (gvalid_s _ _ _).call ?_
    rintro _ rfl
    conv => whnf
    refine ⟨fun hh10 => ?_, fun hh10 => ?_⟩
    · simp only [decide_eq_true_eq, decide_eq_false_iff_not, Bool.not_eq_true, Bool.not_eq_false, Bool.not_eq_true', Bool.not_eq_false', Bool.and_eq_true, Bool.and_eq_false_iff, Int.not_lt, Int.not_le, Decidable.not_not, beq_iff_eq, Bool.not_eq_eq_eq_not, Bool.not_true, Bool.not_false, beq_eq_false_iff_ne, ne_eq, decide_eq_decide] at hh10
      conv => whnf
      exact tup_iii y1.symm y2.symm y3.symm
    · simp only [decide_eq_true_eq, decide_eq_false_iff_not, Bool.not_eq_true, Bool.not_eq_false, Bool.not_eq_true', Bool.not_eq_false', Bool.and_eq_true, Bool.and_eq_false_iff, Int.not_lt, Int.not_le, Decidable.not_not, beq_iff_eq, Bool.not_eq_eq_eq_not, Bool.not_true, Bool.not_false, beq_eq_false_iff_ne, ne_eq, decide_eq_decide] at hh10
      conv => whnf
      refine (avalid_s _ _).call ?_
      rintro _ rfl
      conv => whnf
      refine ⟨fun hh21 => ?_, fun hh21 => ?_⟩
      · simp only [decide_eq_true_eq, decide_eq_false_iff_not, Bool.not_eq_true, Bool.not_eq_false, Bool.not_eq_true', Bool.not_eq_false', Bool.and_eq_true, Bool.and_eq_false_iff, Int.not_lt, Int.not_le, Decidable.not_not, beq_iff_eq, Bool.not_eq_eq_eq_not, Bool.not_true, Bool.not_false, beq_eq_false_iff_ne, ne_eq, decide_eq_decide] at hh21
        conv => whnf
        exact tup_iii y1.symm y2.symm y3.symm
      · simp only [decide_eq_true_eq, decide_eq_false_iff_not, Bool.not_eq_true, Bool.not_eq_false, Bool.not_eq_true', Bool.not_eq_false', Bool.and_eq_true, Bool.and_eq_false_iff, Int.not_lt, Int.not_le, Decidable.not_not, beq_iff_eq, Bool.not_eq_eq_eq_not, Bool.not_true, Bool.not_false, beq_eq_false_iff_ne, ne_eq, decide_eq_decide] at hh21
        conv => whnf
        refine ⟨fun hh22 => ?_, fun hh22 => ?_⟩
        · simp only [decide_eq_true_eq, decide_eq_false_iff_not] at hh22
          conv => whnf
          exact tup_iii y1.symm y2.symm y3.symm
        · simp only [decide_eq_true_eq, decide_eq_false_iff_not] at hh22
          conv => whnf
          refine (sound_s _ (by first | omega | assumption | decide | simp)).call ?_
          rintro _ rfl
          conv => whnf
          refine ⟨fun hh33 => ?_, fun hh33 => ?_⟩
          · simp only [decide_eq_true_eq, decide_eq_false_iff_not, Bool.not_eq_true, Bool.not_eq_false, Bool.not_eq_true', Bool.not_eq_false', Bool.and_eq_true, Bool.and_eq_false_iff, Int.not_lt, Int.not_le, Decidable.not_not, beq_iff_eq, Bool.not_eq_eq_eq_not, Bool.not_true, Bool.not_false, beq_eq_false_iff_ne, ne_eq, decide_eq_decide] at hh33
            conv => whnf
            exact tup_iii y1.symm y2.symm y3.symm
          · simp only [decide_eq_true_eq, decide_eq_false_iff_not, Bool.not_eq_true, Bool.not_eq_false, Bool.not_eq_true', Bool.not_eq_false', Bool.and_eq_true, Bool.and_eq_false_iff, Int.not_lt, Int.not_le, Decidable.not_not, beq_iff_eq, Bool.not_eq_eq_eq_not, Bool.not_true, Bool.not_false, beq_eq_false_iff_ne, ne_eq, decide_eq_decide] at hh33
            conv => whnf
            refine ⟨fun hh34 => ?_, fun hh34 => ?_⟩
            · simp only [decide_eq_true_eq, decide_eq_false_iff_not] at hh34
              conv => whnf
              exact (h' (by simp_all) (by simp_all) (by omega) (by simp_all)).elim
            · simp only [decide_eq_true_eq, decide_eq_false_iff_not] at hh34
              conv => whnf
              exact (h' (by simp_all) (by simp_all) (by omega) (by simp_all)).elim
theorem rbuild_s (ls : List Int) (hlen : ls.length ≤ 1000000) (p b t k o : Int) : PSpec Try.prog 82 [.rs 1 (nums ls), cpE p b t, rtE k o] (· = .tup [.int .i64 (bdv1 ls p b t k o), .int .i64 (bdv2 ls p b t k o), .int .i64 (bde ls p b t k o)]) := by
  refine .of_code' tab_ok Try.func82 (by rfl) rfl trivial ?_
  have hl := nums_len ls
  by_cases hO : bdO ls p b t k o
  · obtain ⟨y1, y2, y3⟩ := bd_yes hO
    obtain ⟨hc, hr, h8, hn⟩ := hO
    have hn' : (lnB ls && decide ((ls.length : Int) ≤ 128)) = true := by rw [lnB_yes hn]; simp; omega
    obtain ⟨⟨p0, p1⟩, ⟨b0, b1⟩, t0, t1⟩ := (cpOk_iff _ _ _).1 hc
    obtain ⟨⟨k0, k1⟩, o0, o1⟩ := (rtOk_iff _ _).1 hr
    by_cases h0 : ls.length = 0
    · have z1 : bdR ls p b t k o = 0 := by unfold bdR bdM; rw [h0]; rfl
      conv => whnf
      refine (rcaps_s _ _ _).call ?_
      rintro _ rfl
      conv => whnf
      refine both_f (by simp; omega) ?_
      conv => whnf
      refine (rvalid_s _ _).call ?_
      rintro _ rfl
      conv => whnf
      refine both_f (by simp; omega) ?_
      conv => whnf
      refine (lengthsOK_s _ (by first | omega | assumption | decide | simp) _).call ?_
      rintro _ rfl
      conv => whnf
      refine both_f (by rw [hn']; rfl) ?_
      conv => whnf
      refine both_t (by simp [*]) ?_
      conv => whnf
      exact tup_iii (by rw [y1, z1]; rfl) (by rw [y2, bdT, if_pos z1]) (by rw [y3, if_pos h0])
    · conv => whnf
      refine (rcaps_s _ _ _).call ?_
      rintro _ rfl
      conv => whnf
      refine both_f (by rw [hc]; rfl) ?_
      conv => whnf
      refine (rvalid_s _ _).call ?_
      rintro _ rfl
      conv => whnf
      refine both_f (by rw [hr]; rfl) ?_
      conv => whnf
      refine (lengthsOK_s _ (by first | omega | assumption | decide | simp) _).call ?_
      rintro _ rfl
      conv => whnf
      refine both_f (by rw [hn']; rfl) ?_
      conv => whnf
      refine both_f (by rw [hl]; exact decide_eq_false (by omega)) ?_
      conv => whnf
      refine LoopG.inv tab_ok 65 (fun n : { n : Nat // n ≤ bdM ls } => [(0, .rs 1 (nums ls)), (4, .ptr 0 0), (5, .ptr 1 0), (9, .int .i64 (bdN ls p b t k o n.1 : Int)), (10, .int .i64 ((n.1 : Int) + 1))])
        (fun _ => [.fix 68 [.int .i64 p, .int .i64 b, .int .i64 t], .fix 52 [.int .i64 k, .int .i64 o]]) (fun n => bdM ls - n.1) ⟨0, by omega⟩ (.of [some 0, some 1] (by decide) ?_) ?_
      · conv => whnf
        refine ⟨by rfl, ?_⟩
        conv => whnf
        refine ⟨by rfl, ?_⟩
        conv => whnf
        refine ⟨by rfl, ?_⟩
        conv => whnf
        refine ⟨by rfl, ?_⟩
        conv => whnf
        refine ⟨by rfl, ?_⟩
        conv => whnf
        refine ⟨by rfl, ?_⟩
        conv => whnf
        refine ⟨by rfl, ?_⟩
        conv => whnf
        refine ⟨by rfl, ?_⟩
        conv => whnf
        exact trivial
      · intro n
        have hi := n.2
        have hM : bdM ls ≤ ls.length ∧ bdM ls ≤ 32 := by unfold bdM; split <;> omega
        have hM2 : n.1 < bdM ls ↔ ((n.1 : Int) + 1 ≤ ls.length ∧ (n.1 : Int) + 1 ≤ 32) := by unfold bdM; split <;> omega
        have step : n.1 < bdM ls → (pmB (ls.take (n.1 + 1)) p b t k o = true → (n.1 : Int) + 1 = (bdN ls p b t k o (n.1 + 1) : Int)) ∧ (pmB (ls.take (n.1 + 1)) p b t k o = false → (bdN ls p b t k o n.1 : Int) = (bdN ls p b t k o (n.1 + 1) : Int)) := fun hlt => by
          have e : pmB (ls.take (n.1 + 1)) p b t k o = true ↔ pmK ls p b t k o (n.1 + 1) := by rw [← pmO_take hn (by omega)]; simp [pmB, hc, hr]
          refine ⟨fun h => ?_, fun h => ?_⟩
          · simp only [bdN]; rw [if_pos (e.1 h)]; omega
          · simp only [bdN]; rw [if_neg (fun h2 => by rw [e.2 h2] at h; cases h)]
        have stop : ¬ n.1 < bdM ls → bdN ls p b t k o n.1 = bdR ls p b t k o := fun h => by unfold bdR; congr 1; omega
        have nz := bdN_spec (ls := ls) (p := p) (b := b) (t := t) (k := k) (o := o) n.1
        conv => whnf
        refine ⟨fun q1 => ?_, fun q1 => ?_⟩
        · simp only [decide_eq_true_eq, decide_eq_false_iff_not] at q1
          rw [hl] at q1
          conv => whnf
          refine ⟨fun q2 => ?_, fun q2 => ?_⟩
          · simp only [decide_eq_true_eq, decide_eq_false_iff_not] at q2
            have hlt : n.1 < bdM ls := by rw [hM2]; omega
            obtain ⟨st1, st2⟩ := step hlt
            conv => whnf
            refine DrawG.of mixed tab_ok ?_
            conv => whnf
            refine ⟨by rw [hl]; omega, ?_⟩
            conv => whnf
            refine (rpermitted_e (ls := ls.take (n.1 + 1)) (by exact sl_key rfl) (by simp; omega) p b t k o).calld ?_
            conv => whnf
            refine ⟨by kernel_rfl, ?_⟩
            conv => whnf
            refine ⟨fun q3 => ?_, fun q3 => ?_⟩
            · conv => whnf
              refine ⟨⟨n.1 + 1, by omega⟩, by show bdM ls - (n.1 + 1) < bdM ls - n.1; omega, .of [some 0, some 1] (by decide) ?_⟩
              conv => whnf
              refine ⟨by rfl, ?_⟩
              conv => whnf
              refine ⟨by simp [*], ?_⟩
              conv => whnf
              refine ⟨by exact (w64 _ (by omega) (by omega)).trans (by simp), ?_⟩
              conv => whnf
              refine ⟨by rfl, ?_⟩
              conv => whnf
              refine ⟨by rfl, ?_⟩
              conv => whnf
              refine ⟨by rfl, ?_⟩
              conv => whnf
              refine ⟨by rfl, ?_⟩
              conv => whnf
              refine ⟨by rfl, ?_⟩
              conv => whnf
              exact trivial
            · conv => whnf
              refine ⟨⟨n.1 + 1, by omega⟩, by show bdM ls - (n.1 + 1) < bdM ls - n.1; omega, .of [some 0, some 1] (by decide) ?_⟩
              conv => whnf
              refine ⟨by rfl, ?_⟩
              conv => whnf
              refine ⟨by simp [*], ?_⟩
              conv => whnf
              refine ⟨by exact (w64 _ (by omega) (by omega)).trans (by simp), ?_⟩
              conv => whnf
              refine ⟨by rfl, ?_⟩
              conv => whnf
              refine ⟨by rfl, ?_⟩
              conv => whnf
              refine ⟨by rfl, ?_⟩
              conv => whnf
              refine ⟨by rfl, ?_⟩
              conv => whnf
              refine ⟨by rfl, ?_⟩
              conv => whnf
              exact trivial
          simp only [decide_eq_true_eq, decide_eq_false_iff_not] at q2
          have hs := stop (by rw [hM2]; omega)
          conv => whnf
          refine .same ?_
          conv => whnf
          refine ⟨fun c0 => ?_, fun c0 => ?_⟩
          · simp only [decide_eq_true_eq, decide_eq_false_iff_not] at c0
            have c1 : bdR ls p b t k o = 0 := by omega
            conv => whnf
            exact tup_iii (by rw [y1, c1]; rfl) (by rw [y2, bdT, if_pos c1]) (by rw [y3, if_neg h0])
          · simp only [decide_eq_true_eq, decide_eq_false_iff_not] at c0
            have c1 : ¬ bdR ls p b t k o = 0 := by omega
            have pk := nz.2.resolve_left (by omega)
            have pO := (pmO_take hn (by omega)).2 pk
            have sz := sz_yes pO.1 pO.2.1
            have el : (ls.take (bdN ls p b t k o n.1)).length = bdN ls p b t k o n.1 := by simp; omega
            have z1 : szv (ls.take (bdN ls p b t k o n.1)) = szS ls (bdR ls p b t k o) := by rw [sz.1, el, szS_take _ (Nat.le_refl _), hs]
            have sr := szS_rng hn (bdR ls p b t k o) (by omega)
            have pk2 := pk
            rw [hs] at pk2
            have pk3 := pk2.2.2.2.1
            obtain ⟨m1, m2⟩ := tm_at' hr (b := szS ls (bdR ls p b t k o)) (by omega) (by omega)
            conv => whnf
            refine ⟨by rw [hl]; omega, ?_⟩
            conv => whnf
            refine (rsize_e (ls := ls.take (bdN ls p b t k o n.1)) (by exact sl_key rfl) (by omega)).call ?_
            rintro _ rfl
            rw [z1]
            conv => whnf
            refine (rtime_s _ _ _).call ?_
            rintro _ rfl
            conv => whnf
            exact tup_iii (by rw [y1, hs]) (by rw [y2, bdT, if_neg c1, m1]) (by rw [y3, if_neg h0])
        · simp only [decide_eq_true_eq, decide_eq_false_iff_not] at q1
          rw [hl] at q1
          have hs := stop (by rw [hM2]; omega)
          conv => whnf
          refine .same ?_
          conv => whnf
          refine ⟨fun c0 => ?_, fun c0 => ?_⟩
          · simp only [decide_eq_true_eq, decide_eq_false_iff_not] at c0
            have c1 : bdR ls p b t k o = 0 := by omega
            conv => whnf
            exact tup_iii (by rw [y1, c1]; rfl) (by rw [y2, bdT, if_pos c1]) (by rw [y3, if_neg h0])
          · simp only [decide_eq_true_eq, decide_eq_false_iff_not] at c0
            have c1 : ¬ bdR ls p b t k o = 0 := by omega
            have pk := nz.2.resolve_left (by omega)
            have pO := (pmO_take hn (by omega)).2 pk
            have sz := sz_yes pO.1 pO.2.1
            have el : (ls.take (bdN ls p b t k o n.1)).length = bdN ls p b t k o n.1 := by simp; omega
            have z1 : szv (ls.take (bdN ls p b t k o n.1)) = szS ls (bdR ls p b t k o) := by rw [sz.1, el, szS_take _ (Nat.le_refl _), hs]
            have sr := szS_rng hn (bdR ls p b t k o) (by omega)
            have pk2 := pk
            rw [hs] at pk2
            have pk3 := pk2.2.2.2.1
            obtain ⟨m1, m2⟩ := tm_at' hr (b := szS ls (bdR ls p b t k o)) (by omega) (by omega)
            conv => whnf
            refine ⟨by rw [hl]; omega, ?_⟩
            conv => whnf
            refine (rsize_e (ls := ls.take (bdN ls p b t k o n.1)) (by exact sl_key rfl) (by omega)).call ?_
            rintro _ rfl
            rw [z1]
            conv => whnf
            refine (rtime_s _ _ _).call ?_
            rintro _ rfl
            conv => whnf
            exact tup_iii (by rw [y1, hs]) (by rw [y2, bdT, if_neg c1, m1]) (by rw [y3, if_neg h0])
  · obtain ⟨y1, y2, y3⟩ := bd_no hO
    have h' : cpOk p b t = true → rtOk k o = true → (lnB ls && decide ((ls.length : Int) ≤ 128)) = true → False := fun q1 q2 q3 => hO ⟨q1, q2, by simp at q3; omega, by simp [lnB] at q3; exact q3.1⟩
    conv => whnf
    refine (rcaps_s _ _ _).call ?_
    rintro _ rfl
    conv => whnf
    refine ⟨fun hh10 => ?_, fun hh10 => ?_⟩
    · simp only [decide_eq_true_eq, decide_eq_false_iff_not, Bool.not_eq_true, Bool.not_eq_false, Bool.not_eq_true', Bool.not_eq_false', Bool.and_eq_true, Bool.and_eq_false_iff, Int.not_lt, Int.not_le, Decidable.not_not, beq_iff_eq, Bool.not_eq_eq_eq_not, Bool.not_true, Bool.not_false, beq_eq_false_iff_ne, ne_eq, decide_eq_decide] at hh10
      conv => whnf
      exact tup_iii y1.symm y2.symm y3.symm
    · simp only [decide_eq_true_eq, decide_eq_false_iff_not, Bool.not_eq_true, Bool.not_eq_false, Bool.not_eq_true', Bool.not_eq_false', Bool.and_eq_true, Bool.and_eq_false_iff, Int.not_lt, Int.not_le, Decidable.not_not, beq_iff_eq, Bool.not_eq_eq_eq_not, Bool.not_true, Bool.not_false, beq_eq_false_iff_ne, ne_eq, decide_eq_decide] at hh10
      conv => whnf
      refine (rvalid_s _ _).call ?_
      rintro _ rfl
      conv => whnf
      refine ⟨fun hh21 => ?_, fun hh21 => ?_⟩
      · simp only [decide_eq_true_eq, decide_eq_false_iff_not, Bool.not_eq_true, Bool.not_eq_false, Bool.not_eq_true', Bool.not_eq_false', Bool.and_eq_true, Bool.and_eq_false_iff, Int.not_lt, Int.not_le, Decidable.not_not, beq_iff_eq, Bool.not_eq_eq_eq_not, Bool.not_true, Bool.not_false, beq_eq_false_iff_ne, ne_eq, decide_eq_decide] at hh21
        conv => whnf
        exact tup_iii y1.symm y2.symm y3.symm
      · simp only [decide_eq_true_eq, decide_eq_false_iff_not, Bool.not_eq_true, Bool.not_eq_false, Bool.not_eq_true', Bool.not_eq_false', Bool.and_eq_true, Bool.and_eq_false_iff, Int.not_lt, Int.not_le, Decidable.not_not, beq_iff_eq, Bool.not_eq_eq_eq_not, Bool.not_true, Bool.not_false, beq_eq_false_iff_ne, ne_eq, decide_eq_decide] at hh21
        conv => whnf
        refine (lengthsOK_s _ (by first | omega | assumption | decide | simp) _).call ?_
        rintro _ rfl
        conv => whnf
        refine ⟨fun hh32 => ?_, fun hh32 => ?_⟩
        · simp only [decide_eq_true_eq, decide_eq_false_iff_not, Bool.not_eq_true, Bool.not_eq_false, Bool.not_eq_true', Bool.not_eq_false', Bool.and_eq_true, Bool.and_eq_false_iff, Int.not_lt, Int.not_le, Decidable.not_not, beq_iff_eq, Bool.not_eq_eq_eq_not, Bool.not_true, Bool.not_false, beq_eq_false_iff_ne, ne_eq, decide_eq_decide] at hh32
          conv => whnf
          exact tup_iii y1.symm y2.symm y3.symm
        · simp only [decide_eq_true_eq, decide_eq_false_iff_not, Bool.not_eq_true, Bool.not_eq_false, Bool.not_eq_true', Bool.not_eq_false', Bool.and_eq_true, Bool.and_eq_false_iff, Int.not_lt, Int.not_le, Decidable.not_not, beq_iff_eq, Bool.not_eq_eq_eq_not, Bool.not_true, Bool.not_false, beq_eq_false_iff_ne, ne_eq, decide_eq_decide] at hh32
          conv => whnf
          refine ⟨fun hh33 => ?_, fun hh33 => ?_⟩
          · simp only [decide_eq_true_eq, decide_eq_false_iff_not] at hh33
            conv => whnf
            exact (h' (by simp_all) (by simp_all) (by simp_all)).elim
          · simp only [decide_eq_true_eq, decide_eq_false_iff_not] at hh33
            conv => whnf
            exact (h' (by simp_all) (by simp_all) (by simp_all)).elim
theorem builds_s (ls : List Int) (hlen : ls.length ≤ 1000000) (p b t k o : Int) : PSpec Try.prog 49 [.rs 1 (nums ls), cpE p b t, rtE k o] (· = .bool true) := by
  refine .of_code' tab_ok Try.func49 (by rfl) rfl trivial ?_
  conv => whnf
  refine (build_s _ (by first | omega | assumption | decide | simp) _ _ _ _ _).call ?_
  rintro _ rfl
  conv => whnf
  refine (rbuild_s _ (by first | omega | assumption | decide | simp) _ _ _ _ _).call ?_
  rintro _ rfl
  conv => whnf
  refine DrawG.of mixed tab_ok ?_
  conv => whnf
  refine both_t (by simp) ?_
  conv => whnf
  refine both_t (by simp) ?_
  conv => whnf
  refine both_t (by simp) ?_
  conv => whnf
  refine (permitted_s _ (by first | omega | assumption | decide | simp) _ _ _ _ _).calld ?_
  conv => whnf
  refine (rpermitted_s _ (by first | omega | assumption | decide | simp) _ _ _ _ _).calld ?_
  conv => whnf
  refine ⟨by kernel_rfl, ?_⟩
  conv => whnf
  simp
/-! ### Most -/
def mn2 (x y : Int) : Int := if y < x then y else x
def msN (p b t k o : Int) : Int := mn2 (mn2 (ftv k o t) b) (4100 * p - 4)
def msO (p b t k o : Int) : Prop := cpOk p b t = true ∧ rtOk k o = true
open Classical in
noncomputable def mse (p b t k o : Int) : Int := if msO p b t k o then (if o ≤ t then 0 else 2) else 1
open Classical in
noncomputable def msv (p b t k o : Int) : Int := if msO p b t k o ∧ o ≤ t then tmq k o (msN p b t k o) else 0
theorem ms_no {p b t k o : Int} (h : ¬ msO p b t k o) : msv p b t k o = 0 ∧ mse p b t k o = 1 := by simp [msv, mse, h]
theorem ms_r {p b t k o : Int} (h : msO p b t k o) (ho : ¬ o ≤ t) : msv p b t k o = 0 ∧ mse p b t k o = 2 := by simp [msv, mse, h, ho]
theorem ms_yes {p b t k o : Int} (h : msO p b t k o) (ho : o ≤ t) : msv p b t k o = tmq k o (msN p b t k o) ∧ mse p b t k o = 0 := by simp [msv, mse, h, ho]
theorem ft_all {k o t : Int} (h : rtOk k o = true) : (o ≤ t → fte k o t = 0 ∧ ftv k o t = ftq k o t) ∧ (¬ o ≤ t → fte k o t = 2) := by
  refine ⟨fun q => ?_, fun q => ?_⟩ <;> simp [fte, ftv, h, q]
theorem msN_rng {p b t k o : Int} (hc : cpOk p b t = true) (hr : rtOk k o = true) (ho : o ≤ t) : 0 ≤ msN p b t k o ∧ msN p b t k o ≤ 262144 ∧ msN p b t k o ≤ b ∧ msN p b t k o ≤ 4100 * p - 4 ∧ msN p b t k o ≤ ftq k o t ∧ (msN p b t k o = b ∨ msN p b t k o = 4100 * p - 4 ∨ msN p b t k o = ftq k o t) := by
  obtain ⟨⟨p0, p1⟩, ⟨b0, b1⟩, t0, t1⟩ := (cpOk_iff _ _ _).1 hc
  have fr := ftq_rng hr ho
  unfold msN mn2
  rw [((ft_all hr).1 ho).2]
  (repeat' split) <;> omega
theorem most_s (p b t k o : Int) : PSpec Try.prog 54 [cpE p b t, rtE k o] (· = .tup [.int .i64 (msv p b t k o), .int .i64 (mse p b t k o)]) := by
  refine .of_code' tab_ok Try.func54 (by rfl) rfl trivial ?_
  by_cases hO : msO p b t k o
  · have hc := hO.1
    have hr := hO.2
    obtain ⟨⟨p0, p1⟩, ⟨b0, b1⟩, t0, t1⟩ := (cpOk_iff _ _ _).1 hc
    have ht : -9223372036854775808 ≤ t ∧ t ≤ 9223372036854775807 := by omega
    by_cases ho : o ≤ t
    · obtain ⟨y1, y2⟩ := ms_yes hO ho
      have f1 := ((ft_all hr).1 ho).1
      obtain ⟨n0, n1, n2, n3, n4, n5⟩ := msN_rng hc hr ho
      obtain ⟨m1, m2⟩ := tm_at' hr n0 n1
      have ew : IntKind.i64.wrap (IntKind.i64.wrap (p * 4100) - 4) = 4100 * p - 4 := by rw [w64 (p * 4100) (by omega) (by omega), w64 _ (by omega) (by omega)]; omega
      have en : (if IntKind.i64.wrap (IntKind.i64.wrap (p * 4100) - 4) < (if b < ftv k o t then b else ftv k o t) then IntKind.i64.wrap (IntKind.i64.wrap (p * 4100) - 4) else (if b < ftv k o t then b else ftv k o t)) = msN p b t k o := by rw [ew]; rfl
      conv => whnf
      refine (gvalid_s _ _ _).call ?_
      rintro _ rfl
      conv => whnf
      refine both_f (by simp; omega) ?_
      conv => whnf
      refine (avalid_s _ _).call ?_
      rintro _ rfl
      conv => whnf
      refine both_f (by simp; omega) ?_
      conv => whnf
      refine (fit_s _ _ _ (by first | omega | assumption | decide | simp)).call ?_
      rintro _ rfl
      conv => whnf
      refine both_f (by simp; omega) ?_
      conv => whnf
      refine (time_s _ _ _).call ?_
      rintro _ rfl
      conv => whnf
      exact tup_ii (by rw [en, m1, y1]) (by rw [en, m2, y2])
    · obtain ⟨y1, y2⟩ := ms_r hO ho
      have f1 := (ft_all hr).2 ho
      conv => whnf
      refine (gvalid_s _ _ _).call ?_
      rintro _ rfl
      conv => whnf
      refine both_f (by simp; omega) ?_
      conv => whnf
      refine (avalid_s _ _).call ?_
      rintro _ rfl
      conv => whnf
      refine both_f (by simp; omega) ?_
      conv => whnf
      refine (fit_s _ _ _ (by first | omega | assumption | decide | simp)).call ?_
      rintro _ rfl
      conv => whnf
      refine both_t (by simp; omega) ?_
      conv => whnf
      exact tup_ii y1.symm (by rw [f1, y2])
  · obtain ⟨y1, y2⟩ := ms_no hO
    have h' : cpOk p b t = true → rtOk k o = true → False := fun q1 q2 => hO ⟨q1, q2⟩
    conv => whnf
    refine (gvalid_s _ _ _).call ?_
    rintro _ rfl
    conv => whnf
    refine ⟨fun hh10 => ?_, fun hh10 => ?_⟩
    · simp only [decide_eq_true_eq, decide_eq_false_iff_not, Bool.not_eq_true, Bool.not_eq_false, Bool.not_eq_true', Bool.not_eq_false', Bool.and_eq_true, Bool.and_eq_false_iff, Int.not_lt, Int.not_le, Decidable.not_not, beq_iff_eq, Bool.not_eq_eq_eq_not, Bool.not_true, Bool.not_false, beq_eq_false_iff_ne, ne_eq, decide_eq_decide] at hh10
      conv => whnf
      exact tup_ii y1.symm y2.symm
    · simp only [decide_eq_true_eq, decide_eq_false_iff_not, Bool.not_eq_true, Bool.not_eq_false, Bool.not_eq_true', Bool.not_eq_false', Bool.and_eq_true, Bool.and_eq_false_iff, Int.not_lt, Int.not_le, Decidable.not_not, beq_iff_eq, Bool.not_eq_eq_eq_not, Bool.not_true, Bool.not_false, beq_eq_false_iff_ne, ne_eq, decide_eq_decide] at hh10
      conv => whnf
      refine (avalid_s _ _).call ?_
      rintro _ rfl
      conv => whnf
      refine ⟨fun hh21 => ?_, fun hh21 => ?_⟩
      · simp only [decide_eq_true_eq, decide_eq_false_iff_not, Bool.not_eq_true, Bool.not_eq_false, Bool.not_eq_true', Bool.not_eq_false', Bool.and_eq_true, Bool.and_eq_false_iff, Int.not_lt, Int.not_le, Decidable.not_not, beq_iff_eq, Bool.not_eq_eq_eq_not, Bool.not_true, Bool.not_false, beq_eq_false_iff_ne, ne_eq, decide_eq_decide] at hh21
        conv => whnf
        exact tup_ii y1.symm y2.symm
      · simp only [decide_eq_true_eq, decide_eq_false_iff_not, Bool.not_eq_true, Bool.not_eq_false, Bool.not_eq_true', Bool.not_eq_false', Bool.and_eq_true, Bool.and_eq_false_iff, Int.not_lt, Int.not_le, Decidable.not_not, beq_iff_eq, Bool.not_eq_eq_eq_not, Bool.not_true, Bool.not_false, beq_eq_false_iff_ne, ne_eq, decide_eq_decide] at hh21
        conv => whnf
        exact (h' (by simp_all) (by simp_all)).elim
theorem rmost_s (p b t k o : Int) : PSpec Try.prog 55 [cpE p b t, rtE k o] (· = .tup [.int .i64 (msv p b t k o), .int .i64 (mse p b t k o)]) := by
  refine .of_code' tab_ok Try.func55 (by rfl) rfl trivial ?_
  by_cases hO : msO p b t k o
  · have hc := hO.1
    have hr := hO.2
    obtain ⟨⟨p0, p1⟩, ⟨b0, b1⟩, t0, t1⟩ := (cpOk_iff _ _ _).1 hc
    have ht : -9223372036854775808 ≤ t ∧ t ≤ 9223372036854775807 := by omega
    by_cases ho : o ≤ t
    · obtain ⟨y1, y2⟩ := ms_yes hO ho
      have f1 := ((ft_all hr).1 ho).1
      obtain ⟨n0, n1, n2, n3, n4, n5⟩ := msN_rng hc hr ho
      obtain ⟨m1, m2⟩ := tm_at' hr n0 n1
      have ew : IntKind.i64.wrap (IntKind.i64.wrap (p * 4096) + IntKind.i64.wrap (4 * IntKind.i64.wrap (p - 1))) = 4100 * p - 4 := by rw [w64 (p * 4096) (by omega) (by omega), w64 (p - 1) (by omega) (by omega), w64 (4 * _) (by omega) (by omega), w64 _ (by omega) (by omega)]; omega
      have en : (if IntKind.i64.wrap (IntKind.i64.wrap (p * 4096) + IntKind.i64.wrap (4 * IntKind.i64.wrap (p - 1))) < (if b < ftv k o t then b else ftv k o t) then IntKind.i64.wrap (IntKind.i64.wrap (p * 4096) + IntKind.i64.wrap (4 * IntKind.i64.wrap (p - 1))) else (if b < ftv k o t then b else ftv k o t)) = msN p b t k o := by rw [ew]; rfl
      conv => whnf
      refine (rcaps_s _ _ _).call ?_
      rintro _ rfl
      conv => whnf
      refine both_f (by simp; omega) ?_
      conv => whnf
      refine (rvalid_s _ _).call ?_
      rintro _ rfl
      conv => whnf
      refine both_f (by simp; omega) ?_
      conv => whnf
      refine (rfit_s _ _ _ (by first | omega | assumption | decide | simp)).call ?_
      rintro _ rfl
      conv => whnf
      refine both_f (by simp; omega) ?_
      conv => whnf
      refine (rtime_s _ _ _).call ?_
      rintro _ rfl
      conv => whnf
      exact tup_ii (by rw [en, m1, y1]) y2.symm
    · obtain ⟨y1, y2⟩ := ms_r hO ho
      have f1 := (ft_all hr).2 ho
      conv => whnf
      refine (rcaps_s _ _ _).call ?_
      rintro _ rfl
      conv => whnf
      refine both_f (by simp; omega) ?_
      conv => whnf
      refine (rvalid_s _ _).call ?_
      rintro _ rfl
      conv => whnf
      refine both_f (by simp; omega) ?_
      conv => whnf
      refine (rfit_s _ _ _ (by first | omega | assumption | decide | simp)).call ?_
      rintro _ rfl
      conv => whnf
      refine both_t (by simp; omega) ?_
      conv => whnf
      exact tup_ii y1.symm (by rw [f1, y2])
  · obtain ⟨y1, y2⟩ := ms_no hO
    have h' : cpOk p b t = true → rtOk k o = true → False := fun q1 q2 => hO ⟨q1, q2⟩
    conv => whnf
    refine (rcaps_s _ _ _).call ?_
    rintro _ rfl
    conv => whnf
    refine ⟨fun hh10 => ?_, fun hh10 => ?_⟩
    · simp only [decide_eq_true_eq, decide_eq_false_iff_not, Bool.not_eq_true, Bool.not_eq_false, Bool.not_eq_true', Bool.not_eq_false', Bool.and_eq_true, Bool.and_eq_false_iff, Int.not_lt, Int.not_le, Decidable.not_not, beq_iff_eq, Bool.not_eq_eq_eq_not, Bool.not_true, Bool.not_false, beq_eq_false_iff_ne, ne_eq, decide_eq_decide] at hh10
      conv => whnf
      exact tup_ii y1.symm y2.symm
    · simp only [decide_eq_true_eq, decide_eq_false_iff_not, Bool.not_eq_true, Bool.not_eq_false, Bool.not_eq_true', Bool.not_eq_false', Bool.and_eq_true, Bool.and_eq_false_iff, Int.not_lt, Int.not_le, Decidable.not_not, beq_iff_eq, Bool.not_eq_eq_eq_not, Bool.not_true, Bool.not_false, beq_eq_false_iff_ne, ne_eq, decide_eq_decide] at hh10
      conv => whnf
      refine (rvalid_s _ _).call ?_
      rintro _ rfl
      conv => whnf
      refine ⟨fun hh21 => ?_, fun hh21 => ?_⟩
      · simp only [decide_eq_true_eq, decide_eq_false_iff_not, Bool.not_eq_true, Bool.not_eq_false, Bool.not_eq_true', Bool.not_eq_false', Bool.and_eq_true, Bool.and_eq_false_iff, Int.not_lt, Int.not_le, Decidable.not_not, beq_iff_eq, Bool.not_eq_eq_eq_not, Bool.not_true, Bool.not_false, beq_eq_false_iff_ne, ne_eq, decide_eq_decide] at hh21
        conv => whnf
        exact tup_ii y1.symm y2.symm
      · simp only [decide_eq_true_eq, decide_eq_false_iff_not, Bool.not_eq_true, Bool.not_eq_false, Bool.not_eq_true', Bool.not_eq_false', Bool.and_eq_true, Bool.and_eq_false_iff, Int.not_lt, Int.not_le, Decidable.not_not, beq_iff_eq, Bool.not_eq_eq_eq_not, Bool.not_true, Bool.not_false, beq_eq_false_iff_ne, ne_eq, decide_eq_decide] at hh21
        conv => whnf
        exact (h' (by simp_all) (by simp_all)).elim
end Go.Proofs.Ythlomoacacebead

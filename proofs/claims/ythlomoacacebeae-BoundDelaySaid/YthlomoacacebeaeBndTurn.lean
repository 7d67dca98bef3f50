/- The weights that chapter 26's statements draw. No statement of the seat is proved here. -/
import Derived.Test.YthlomoacacebeaeBndKeep
namespace Go.Proofs.Ythlomoacacebeae
open Go.Sx
set_option linter.unusedSimpArgs false
set_option linter.unusedVariables false
theorem nums_app (l : List Int) (z : Int) : nums l ++ [[SV.int .i64 z]] = nums (l ++ [z]) := by simp [nums]
theorem weights_s (ls : List Int) (at' : Int) (h0 : 0 ≤ at') (h1 : at' < 9223372036854775000) :
    OSpec Try.prog 14 [.ptr 0 0] [chs ls at'] fun s ho => ∃ (l : List Int) (a2 : Int), s = .rs 1 (nums l) ∧ ho = [chs ls a2] ∧ l.length ≤ 33 ∧ at' ≤ a2 ∧ a2 ≤ at' + 10 := by
  refine .of_code tab_ok Try.func14 (by rfl) rfl trivial ?_
  have k0 := nxt_lo ls at' 6
  have k1 := nxt_hi ls at' 6 (by omega)
  conv => whnf
  refine (next_s ls at' 6 (by omega) (by omega) (by omega)).call [0] (by decide) (And.intro rfl trivial) (And.intro rfl trivial) ?_
  rintro _ _ ⟨rfl, rfl⟩
  conv => whnf
  refine LoopG.inv tab_ok 32 (fun x : { x : List Int × Nat × Int // x.1.length + x.2.1 ≤ 5 ∧ at' ≤ x.2.2 ∧ x.2.2 + x.2.1 ≤ at' + 6 } => [(0, .ptr 0 0), (3, .sl 1), (4, .int .i64 (x.1.2.1 : Int))])
    (fun x => [chs ls x.1.2.2, .row 3 1 (nums x.1.1)]) (fun x => x.1.2.1) ⟨([], (nxt ls at' 6).toNat, at' + 1), by simp; omega⟩ (.of [some 0, none] (by rfl) ?_) ?_
  · conv => whnf
    refine ⟨by simp; omega, ?_⟩
    conv => whnf
    refine ⟨by rfl, ?_⟩
    conv => whnf
    refine ⟨by rfl, ?_⟩
    conv => whnf
    refine ⟨by rfl, ?_⟩
    conv => whnf
    exact trivial
  · intro x
    obtain ⟨hx1, hx2, hx3⟩ := x.2
    conv => whnf
    refine ⟨fun hb => ?_, fun hb => ?_⟩
    · have hb : (0 : Int) < (x.1.2.1 : Int) := by simpa using hb
      have e3 : IntKind.i64.wrap ((x.1.2.1 : Int) - 1) = ((x.1.2.1 - 1 : Nat) : Int) := by rw [w64 _ (by omega) (by omega)]; omega
      conv => whnf
      refine (weight_s _ _ (by first | omega | assumption | decide | simp) (by first | omega | assumption | decide | simp)).call [0] (by decide) trivial (And.intro rfl trivial) ?_
      rintro _ _ ⟨rfl, rfl⟩
      conv => whnf
      refine ⟨by (simp [nums_len]; omega), ?_⟩
      conv => whnf
      refine ⟨⟨(x.1.1 ++ [wex ls x.1.2.2], x.1.2.1 - 1, x.1.2.2 + 1), by simp; omega⟩, by show x.1.2.1 - 1 < x.1.2.1; omega, .of [some 0, some 3] (by rfl) ?_⟩
      conv => whnf
      refine ⟨by omega, ?_⟩
      conv => whnf
      refine ⟨by rfl, ?_⟩
      conv => whnf
      refine ⟨by rfl, ?_⟩
      conv => whnf
      refine ⟨by (rw [nums_app]), ?_⟩
      conv => whnf
      exact trivial
    · have hb : ¬ (0 : Int) < (x.1.2.1 : Int) := by simpa using hb
      have fin : ∀ (l : List Int) (b : Int), l.length ≤ 33 → at' ≤ b → b ≤ at' + 10 → ∃ (l2 : List Int) (a2 : Int), SV.rs 1 (nums l) = .rs 1 (nums l2) ∧ [chs ls b] = [chs ls a2] ∧ l2.length ≤ 33 ∧ at' ≤ a2 ∧ a2 ≤ at' + 10 := fun l b q1 q2 q3 => ⟨l, b, rfl, rfl, q1, q2, q3⟩
      conv => whnf
      refine .same ?_
      conv => whnf
      refine (next_s _ _ _ (by first | omega | assumption | decide | simp) (by first | omega | assumption | decide | simp) (by first | omega | assumption | decide | simp)).call [0] (by decide) (And.intro rfl trivial) (And.intro rfl trivial) ?_
      rintro _ _ ⟨rfl, rfl⟩
      conv => whnf
      refine ⟨fun hh10 => ?_, fun hh10 => ?_⟩
      · simp only [decide_eq_true_eq, decide_eq_false_iff_not] at hh10
        conv => whnf
        refine (next_s _ _ _ (by first | omega | assumption | decide | simp) (by first | omega | assumption | decide | simp) (by first | omega | assumption | decide | simp)).call [0] (by decide) (And.intro rfl trivial) (And.intro rfl trivial) ?_
        rintro _ _ ⟨rfl, rfl⟩
        conv => whnf
        refine ⟨by exact ⟨nxt_lo _ _ _, nxt_hi _ _ _ (by omega)⟩, ?_⟩
        conv => whnf
        refine ⟨_, lit_get (l := [0, 17]) (nxt_lo _ _ _) (nxt_hi _ _ _ (by decide)), ?_⟩
        conv => whnf
        refine ⟨by (simp [nums_len]; omega), ?_⟩
        conv => whnf
        refine ⟨x.1.1 ++ [[0, 17].getD (nxt ls (x.1.2.2 + 1) 2).toNat 0], _, by rw [← nums_app], rfl, by simp; omega, by omega, by omega⟩
      · simp only [decide_eq_true_eq, decide_eq_false_iff_not] at hh10
        conv => whnf
        refine ⟨fun hh23 => ?_, fun hh23 => ?_⟩
        · simp only [decide_eq_true_eq, decide_eq_false_iff_not] at hh23
          conv => whnf
          refine ⟨by simp, ?_⟩
          conv => whnf
          refine fin (List.replicate 33 0) _ (by simp) (by omega) (by omega)
        · simp only [decide_eq_true_eq, decide_eq_false_iff_not] at hh23
          conv => whnf
          refine fin x.1.1 _ (by omega) (by omega) (by omega)
open Classical in
noncomputable def wB (ls : List Int) : Bool := decide (wOk ls)
theorem wB_yes {ls : List Int} (h : wOk ls) : wB ls = true := by simp [wB, h]
theorem wB_no {ls : List Int} (h : ¬ wOk ls) : wB ls = false := by simp [wB, h]
theorem bvalid_f (ls : List Int) (hlen : ls.length ≤ 1000000) : PSpec Try.prog 46 [.rs 1 (nums ls)] (· = .bool (wB ls)) := by
  refine .of_code' tab_ok Try.func46 (by rfl) rfl trivial ?_
  have hl := nums_len ls
  conv => whnf
  refine LoopG.inv tab_ok 26 (fun i : { i : Nat // i ≤ ls.length ∧ ∀ k, k < i → 1 ≤ ls.getD k 0 ∧ ls.getD k 0 ≤ 16 } => [(0, .rs 1 (nums ls)), (2, .ff), (5, .rs 1 (nums ls)), (6, .int .i64 ((nums ls).length : Int)), (7, .int .i64 (i.1 : Int))])
    (fun _ => []) (fun i => ls.length - i.1) ⟨0, by omega, by intro k hk; omega⟩ (.of [] (by decide) ?_) ?_
  · conv => whnf
    refine ⟨by rfl, ?_⟩
    conv => whnf
    refine ⟨by rfl, ?_⟩
    conv => whnf
    refine ⟨by rfl, ?_⟩
    conv => whnf
    refine ⟨by rfl, ?_⟩
    conv => whnf
    exact trivial
  · intro i
    obtain ⟨hi, hg⟩ := i.2
    conv => whnf
    refine ⟨fun hb => ?_, fun hb => ?_⟩
    · have hb : i.1 < ls.length := by simpa [hl] using hb
      conv => whnf
      refine ⟨by omega, ?_⟩
      conv => whnf
      refine ⟨_, num_get hb, ?_⟩
      conv => whnf
      refine ⟨fun hh1 => ?_, fun hh1 => ?_⟩
      · simp only [decide_eq_true_eq, decide_eq_false_iff_not] at hh1
        conv => whnf
        refine .same ?_
        conv => whnf
        exact bool_e (wB_no (fun hw => by have := hw.2.2 i.1 hb; omega)).symm
      · simp only [decide_eq_true_eq, decide_eq_false_iff_not] at hh1
        conv => whnf
        refine ⟨fun hh2 => ?_, fun hh2 => ?_⟩
        · simp only [decide_eq_true_eq, decide_eq_false_iff_not] at hh2
          conv => whnf
          refine .same ?_
          conv => whnf
          exact bool_e (wB_no (fun hw => by have := hw.2.2 i.1 hb; omega)).symm
        · simp only [decide_eq_true_eq, decide_eq_false_iff_not] at hh2
          conv => whnf
          refine ⟨⟨i.1 + 1, by omega, fun k hk => by rcases Nat.lt_succ_iff_lt_or_eq.1 hk with h | h; exact hg k h; (subst h; omega)⟩, by show ls.length - (i.1 + 1) < ls.length - i.1; omega, .of [] (by decide) ?_⟩
          conv => whnf
          refine ⟨by rfl, ?_⟩
          conv => whnf
          refine ⟨by rfl, ?_⟩
          conv => whnf
          refine ⟨by rfl, ?_⟩
          conv => whnf
          refine ⟨by exact (w64 _ (by omega) (by omega)).trans (by simp), ?_⟩
          conv => whnf
          exact trivial
    · have hb : i.1 = ls.length := by simp [hl] at hb; omega
      conv => whnf
      refine .same ?_
      conv => whnf
      refine ⟨fun hh0 => ?_, fun hh0 => ?_⟩
      · simp only [decide_eq_true_eq, decide_eq_false_iff_not] at hh0
        conv => whnf
        exact bool_e (by rw [hl]; symm; by_cases h32 : ls.length ≤ 32; (rw [wB_yes ⟨by omega, h32, fun k hk => hg k (by omega)⟩]; simp; omega); (rw [wB_no (fun hw => h32 hw.2.1)]; simp; omega))
      · simp only [decide_eq_true_eq, decide_eq_false_iff_not] at hh0
        conv => whnf
        exact bool_e (wB_no (fun hw => by have := hw.1; omega)).symm
def tnO (ls : List Int) (i : Int) : Prop := wOk ls ∧ 0 ≤ i ∧ i < ls.length
open Classical in
noncomputable def tnv (ls : List Int) (i : Int) : Int := if tnO ls i then tsum ls i.toNat ls.length else 0
open Classical in
noncomputable def tne (ls : List Int) (i : Int) : Int := if tnO ls i then 0 else 1
theorem tn_yes {ls : List Int} {i : Int} (h : tnO ls i) : tnv ls i = tsum ls i.toNat ls.length ∧ tne ls i = 0 := by simp [tnv, tne, h]
theorem tn_no {ls : List Int} {i : Int} (h : ¬ tnO ls i) : tnv ls i = 0 ∧ tne ls i = 1 := by simp [tnv, tne, h]
theorem turn_no (ls : List Int) (hlen : ls.length ≤ 1000000) (i : Int) (h : ¬ tnO ls i) : PSpec Try.prog 20 [.rs 1 (nums ls), .int .i64 i] (· = .tup [.int .i64 (tnv ls i), .int .i64 (tne ls i)]) := by
  refine .of_code' tab_ok Try.func20 (by rfl) rfl trivial ?_
  have hl := nums_len ls
  obtain ⟨t1, t2⟩ := tn_no h
  by_cases hw : wOk ls
  · have hB := wB_yes hw
    conv => whnf
    refine (bvalid_f _ (by first | omega | assumption | decide | simp)).call ?_
    rintro _ rfl
    conv => whnf
    refine both_f (by simp; omega) ?_
    conv => whnf
    refine ⟨fun hh10 => ?_, fun hh10 => ?_⟩
    · simp only [decide_eq_true_eq, decide_eq_false_iff_not] at hh10
      conv => whnf
      exact tup_ii t1.symm t2.symm
    · simp only [decide_eq_true_eq, decide_eq_false_iff_not] at hh10
      conv => whnf
      refine ⟨fun hh11 => ?_, fun hh11 => ?_⟩
      · simp only [decide_eq_true_eq, decide_eq_false_iff_not] at hh11
        conv => whnf
        exact tup_ii t1.symm t2.symm
      · simp only [decide_eq_true_eq, decide_eq_false_iff_not] at hh11
        conv => whnf
        exact (h ⟨hw, by omega, by simp [hl] at *; omega⟩).elim
  · have hB := wB_no hw
    conv => whnf
    refine (bvalid_f _ (by first | omega | assumption | decide | simp)).call ?_
    rintro _ rfl
    conv => whnf
    refine both_t (by simp; omega) ?_
    conv => whnf
    exact tup_ii t1.symm t2.symm
theorem turn_f (ls : List Int) (hlen : ls.length ≤ 1000000) (i : Int) : PSpec Try.prog 20 [.rs 1 (nums ls), .int .i64 i] (· = .tup [.int .i64 (tnv ls i), .int .i64 (tne ls i)]) := by
  by_cases h : tnO ls i
  · have := turn_t ls h.1 i.toNat (by have := h.2; omega)
    rw [Int.toNat_of_nonneg h.2.1] at this
    rw [(tn_yes h).1, (tn_yes h).2]
    exact this
  · exact turn_no ls hlen i h
noncomputable def lov (ls : List Int) : Int := if wB ls = true then lmax ls ls.length else 0
noncomputable def loe (ls : List Int) : Int := if wB ls = true then 0 else 1
theorem longest_f (ls : List Int) (hlen : ls.length ≤ 1000000) : PSpec Try.prog 45 [.rs 1 (nums ls)] (· = .tup [.int .i64 (lov ls), .int .i64 (loe ls)]) := by
  by_cases hw : wOk ls
  · have := longest_t ls hw
    rw [lov, loe, if_pos (wB_yes hw), if_pos (wB_yes hw)]
    exact this
  · refine .of_code' tab_ok Try.func45 (by rfl) rfl trivial ?_
    have hB := wB_no hw
    have e1 : lov ls = 0 := by simp [lov, hB]
    have e2 : loe ls = 1 := by simp [loe, hB]
    conv => whnf
    refine (bvalid_f _ (by first | omega | assumption | decide | simp)).call ?_
    rintro _ rfl
    conv => whnf
    refine both_t (by simp; omega) ?_
    conv => whnf
    exact tup_ii e1.symm e2.symm
theorem tstep {ls : List Int} {i k : Nat} (h1 : 1 ≤ ls.getD k 0 ∧ ls.getD k 0 ≤ 16) (h2 : 1 ≤ ls.getD i 0) (b1 : tsum ls i k ≤ 1 + 17 * k) (b0 : 1 ≤ tsum ls i k) (hk : k ≤ 32) :
    (k ≠ i → IntKind.i64.wrap (tsum ls i k + IntKind.i64.wrap (IntKind.i64.wrap (Int.tdiv (ls.getD k 0) (ls.getD i 0)) + 1)) = tsum ls i (k + 1)) ∧ (k = i → tsum ls i k = tsum ls i (k + 1)) ∧ tsum ls i (k + 1) ≤ 1 + 17 * ((k + 1 : Nat) : Int) ∧ 1 ≤ tsum ls i (k + 1) := by
  have d0 : 0 ≤ ls.getD k 0 / ls.getD i 0 := Int.ediv_nonneg (by omega) (by omega)
  have d1 : ls.getD k 0 / ls.getD i 0 ≤ ls.getD k 0 := Int.ediv_le_self _ (by omega)
  have e : Int.tdiv (ls.getD k 0) (ls.getD i 0) = ls.getD k 0 / ls.getD i 0 := Int.tdiv_eq_ediv_of_nonneg (by omega)
  refine ⟨fun hne => ?_, fun he => by simp [tsum, he], ?_, ?_⟩
  · rw [e, w64 (ls.getD k 0 / ls.getD i 0) (by omega) (by omega), w64 (_ + 1) (by omega) (by omega), w64 _ (by omega) (by omega)]
    simp only [tsum, if_pos hne]
  · simp only [tsum]; split <;> omega
  · simp only [tsum]; split <;> omega
theorem rturn_f (ls : List Int) (hlen : ls.length ≤ 1000000) (i : Int) : PSpec Try.prog 77 [.rs 1 (nums ls), .int .i64 i] (· = .tup [.int .i64 (tnv ls i), .int .i64 (tne ls i)]) := by
  refine .of_code' tab_ok Try.func77 (by rfl) rfl trivial ?_
  have hl := nums_len ls
  by_cases hr : 1 ≤ ls.length ∧ ls.length ≤ 32 ∧ 0 ≤ i ∧ i < ls.length
  · obtain ⟨r1, r2, r3, r4⟩ := hr
    have hi : i.toNat < ls.length := by omega
    have hin : i = (i.toNat : Int) := by omega
    have bad : ∀ k, k < ls.length → ¬ (1 ≤ ls.getD k 0 ∧ ls.getD k 0 ≤ 16) → tnv ls i = 0 ∧ tne ls i = 1 := fun k hk hn => tn_no fun h => hn (h.1.2.2 k hk)
    conv => whnf
    refine both_f (by rw [hl]; simp; omega) ?_
    conv => whnf
    refine both_f (by rw [hl]; simp; omega) ?_
    conv => whnf
    refine both_f (by simp; omega) ?_
    conv => whnf
    refine both_f (by rw [hl]; simp; omega) ?_
    conv => whnf
    refine LoopG.inv tab_ok 67 (fun k : { k : Nat // k ≤ ls.length ∧ (∀ j, j < k → 1 ≤ ls.getD j 0 ∧ ls.getD j 0 ≤ 16) ∧ tsum ls i.toNat k ≤ 1 + 17 * k ∧ 1 ≤ tsum ls i.toNat k } => [(0, .rs 1 (nums ls)), (1, .int .i64 i), (4, .int .i64 0), (5, .int .i64 0), (6, .int .i64 (tsum ls i.toNat k.1)), (7, .int .i64 (k.1 : Int))])
      (fun _ => []) (fun k => ls.length - k.1) ⟨0, by omega, by intro j hj; omega, by simp [tsum], by simp [tsum]⟩ (.of [] (by decide) ?_) ?_
    · conv => whnf
      refine ⟨by rfl, ?_⟩
      conv => whnf
      refine ⟨by rfl, ?_⟩
      conv => whnf
      refine ⟨by rfl, ?_⟩
      conv => whnf
      refine ⟨by rfl, ?_⟩
      conv => whnf
      refine ⟨by rfl, ?_⟩
      conv => whnf
      refine ⟨by rfl, ?_⟩
      conv => whnf
      exact trivial
    · intro k
      obtain ⟨hk, hg, hs1, hs2⟩ := k.2
      conv => whnf
      refine ⟨fun hb => ?_, fun hb => ?_⟩
      · have hb : k.1 < ls.length := by simpa [hl] using hb
        have gi := num_get hi
        rw [← hin] at gi
        conv => whnf
        refine ⟨by omega, ?_⟩
        conv => whnf
        refine ⟨_, num_get hb, ?_⟩
        conv => whnf
        refine ⟨fun hh1 => ?_, fun hh1 => ?_⟩
        · simp only [decide_eq_true_eq, decide_eq_false_iff_not] at hh1
          conv => whnf
          refine .same ?_
          conv => whnf
          exact tup_ii (bad k.1 hb (by omega)).1.symm (bad k.1 hb (by omega)).2.symm
        · simp only [decide_eq_true_eq, decide_eq_false_iff_not] at hh1
          conv => whnf
          refine ⟨by omega, ?_⟩
          conv => whnf
          refine ⟨_, num_get hb, ?_⟩
          conv => whnf
          refine ⟨fun hh3 => ?_, fun hh3 => ?_⟩
          · simp only [decide_eq_true_eq, decide_eq_false_iff_not] at hh3
            conv => whnf
            refine .same ?_
            conv => whnf
            exact tup_ii (bad k.1 hb (by omega)).1.symm (bad k.1 hb (by omega)).2.symm
          · simp only [decide_eq_true_eq, decide_eq_false_iff_not] at hh3
            conv => whnf
            refine ⟨by omega, ?_⟩
            conv => whnf
            refine ⟨_, gi, ?_⟩
            conv => whnf
            refine ⟨fun hh5 => ?_, fun hh5 => ?_⟩
            · simp only [decide_eq_true_eq, decide_eq_false_iff_not] at hh5
              conv => whnf
              refine .same ?_
              conv => whnf
              exact tup_ii (bad i.toNat hi (by omega)).1.symm (bad i.toNat hi (by omega)).2.symm
            · simp only [decide_eq_true_eq, decide_eq_false_iff_not] at hh5
              conv => whnf
              refine ⟨fun hh6 => ?_, fun hh6 => ?_⟩
              · simp only [decide_eq_true_eq, decide_eq_false_iff_not] at hh6
                conv => whnf
                refine DrawG.of mixed tab_ok ?_
                conv => whnf
                refine ⟨by omega, ?_⟩
                conv => whnf
                refine ⟨_, num_get hb, ?_⟩
                conv => whnf
                refine ⟨by omega, ?_⟩
                conv => whnf
                refine ⟨_, gi, ?_⟩
                conv => whnf
                refine ⟨by omega, ?_⟩
                conv => whnf
                refine ⟨by kernel_rfl, ?_⟩
                conv => whnf
                refine (have st := tstep (ls := ls) (i := i.toNat) (k := k.1) (by omega) (by omega) hs1 hs2 (by omega); ⟨⟨k.1 + 1, by omega, fun j hj => (by rcases Nat.lt_succ_iff_lt_or_eq.1 hj with h | h; exact hg j h; (subst h; omega)), st.2.2.1, st.2.2.2⟩, by show ls.length - (k.1 + 1) < ls.length - k.1; omega, .of [] (by decide) ?_⟩)
                conv => whnf
                refine ⟨by rfl, ?_⟩
                conv => whnf
                refine ⟨by rfl, ?_⟩
                conv => whnf
                refine ⟨by rfl, ?_⟩
                conv => whnf
                refine ⟨by rfl, ?_⟩
                conv => whnf
                refine ⟨by exact st.1 (by omega), ?_⟩
                conv => whnf
                refine ⟨by exact (w64 _ (by omega) (by omega)).trans (by simp), ?_⟩
                conv => whnf
                exact trivial
              · simp only [decide_eq_true_eq, decide_eq_false_iff_not] at hh6
                conv => whnf
                refine (have st := tstep (ls := ls) (i := i.toNat) (k := k.1) (by omega) (by omega) hs1 hs2 (by omega); ⟨⟨k.1 + 1, by omega, fun j hj => (by rcases Nat.lt_succ_iff_lt_or_eq.1 hj with h | h; exact hg j h; (subst h; omega)), st.2.2.1, st.2.2.2⟩, by show ls.length - (k.1 + 1) < ls.length - k.1; omega, .of [] (by decide) ?_⟩)
                conv => whnf
                refine ⟨by rfl, ?_⟩
                conv => whnf
                refine ⟨by rfl, ?_⟩
                conv => whnf
                refine ⟨by rfl, ?_⟩
                conv => whnf
                refine ⟨by rfl, ?_⟩
                conv => whnf
                refine ⟨by simp; omega, ?_⟩
                conv => whnf
                refine ⟨by exact (w64 _ (by omega) (by omega)).trans (by simp), ?_⟩
                conv => whnf
                exact trivial
      · have hb : k.1 = ls.length := by simp [hl] at hb; omega
        have hw : wOk ls := ⟨r1, r2, fun j hj => hg j (by omega)⟩
        obtain ⟨t1, t2⟩ := tn_yes (ls := ls) (i := i) ⟨hw, r3, r4⟩
        conv => whnf
        refine .same ?_
        conv => whnf
        (rw [hb]; exact tup_ii t1.symm t2.symm)
  · have h : ¬ tnO ls i := fun h => hr ⟨h.1.1, h.1.2.1, h.2.1, h.2.2⟩
    obtain ⟨t1, t2⟩ := tn_no h
    conv => whnf
    refine ⟨fun hh0 => ?_, fun hh0 => ?_⟩
    · simp only [decide_eq_true_eq, decide_eq_false_iff_not] at hh0
      conv => whnf
      exact tup_ii t1.symm t2.symm
    · simp only [decide_eq_true_eq, decide_eq_false_iff_not] at hh0
      conv => whnf
      refine ⟨fun hh1 => ?_, fun hh1 => ?_⟩
      · simp only [decide_eq_true_eq, decide_eq_false_iff_not] at hh1
        conv => whnf
        exact tup_ii t1.symm t2.symm
      · simp only [decide_eq_true_eq, decide_eq_false_iff_not] at hh1
        conv => whnf
        refine ⟨fun hh2 => ?_, fun hh2 => ?_⟩
        · simp only [decide_eq_true_eq, decide_eq_false_iff_not] at hh2
          conv => whnf
          exact tup_ii t1.symm t2.symm
        · simp only [decide_eq_true_eq, decide_eq_false_iff_not] at hh2
          conv => whnf
          refine both_t (by simp; omega) ?_
          conv => whnf
          exact tup_ii t1.symm t2.symm
theorem lmax_ge {ls : List Int} : ∀ k j, j < k → tsum ls j ls.length ≤ lmax ls k := by
  intro k
  induction k with
  | zero => intro j hj; omega
  | succ k ih =>
    intro j hj
    simp only [lmax]
    by_cases h : j = k
    · subst h; split <;> omega
    · have := ih j (by omega)
      split <;> omega
theorem lmax_one {ls : List Int} (h : wOk ls) : lmax ls 1 = tsum ls 0 ls.length := by
  have t := tsum_rng h (i := 0) (by have := h.1; omega) ls.length (Nat.le_refl _)
  exact if_pos (show tsum ls 0 ls.length > 0 by omega)
theorem rlongest_f (ls : List Int) (hlen : ls.length ≤ 1000000) : PSpec Try.prog 79 [.rs 1 (nums ls)] (· = .tup [.int .i64 (lov ls), .int .i64 (loe ls)]) := by
  refine .of_code' tab_ok Try.func79 (by rfl) rfl trivial ?_
  have hl := nums_len ls
  conv => whnf
  refine (rturn_f ls hlen 0).call ?_
  rintro _ rfl
  by_cases hw : wOk ls
  · have hB := wB_yes hw
    have e1 : lov ls = lmax ls ls.length := by simp [lov, hB]
    have e2 : loe ls = 0 := by simp [loe, hB]
    have w1 := hw.1
    have t0 : tnO ls 0 := ⟨hw, by omega, by omega⟩
    obtain ⟨t1, t2⟩ := tn_yes t0
    have t1' : tnv ls 0 = lmax ls 1 := by rw [t1, lmax_one hw]; rfl
    rw [t1', t2]
    conv => whnf
    refine LoopG.inv tab_ok 35 (fun k : { k : Nat // 1 ≤ k ∧ k ≤ ls.length } => [(0, .rs 1 (nums ls)), (4, .int .i64 (lmax ls k.1)), (5, .int .i64 0), (6, .int .i64 (k.1 : Int))])
      (fun _ => []) (fun k => ls.length - k.1) ⟨1, by omega⟩ (.of [] (by decide) ?_) ?_
    · conv => whnf
      refine ⟨by rfl, ?_⟩
      conv => whnf
      refine ⟨by rfl, ?_⟩
      conv => whnf
      refine ⟨by rfl, ?_⟩
      conv => whnf
      refine ⟨by rfl, ?_⟩
      conv => whnf
      exact trivial
    · intro k
      obtain ⟨hk1, hk⟩ := k.2
      conv => whnf
      refine ⟨fun hb => ?_, fun hb => ?_⟩
      · have hb : k.1 < ls.length := by simpa [hl] using hb
        have tk : tnO ls (k.1 : Int) := ⟨hw, by omega, by omega⟩
        obtain ⟨u1, u2⟩ := tn_yes tk
        have u1' : tnv ls (k.1 : Int) = tsum ls k.1 ls.length := u1
        conv => whnf
        refine both_t rfl ?_
        conv => whnf
        refine (rturn_f _ (by first | omega | assumption | decide | simp) _).call ?_
        rintro _ rfl
        conv => whnf
        refine ⟨⟨k.1 + 1, by omega⟩, by show ls.length - (k.1 + 1) < ls.length - k.1; omega, .of [] (by decide) ?_⟩
        conv => whnf
        refine ⟨by rfl, ?_⟩
        conv => whnf
        refine ⟨by (simp only [u1', lmax]), ?_⟩
        conv => whnf
        refine ⟨by rfl, ?_⟩
        conv => whnf
        refine ⟨by exact (w64 _ (by omega) (by omega)).trans (by simp), ?_⟩
        conv => whnf
        exact trivial
      · have hb : k.1 = ls.length := by simp [hl] at hb; omega
        conv => whnf
        refine .same ?_
        conv => whnf
        exact tup_ii (by rw [e1, hb]) e2.symm
  · have hB := wB_no hw
    have e1 : lov ls = 0 := by simp [lov, hB]
    have e2 : loe ls = 1 := by simp [loe, hB]
    obtain ⟨t1, t2⟩ := tn_no (ls := ls) (i := 0) (fun h => hw h.1)
    rw [t1, t2]
    conv => whnf
    refine LoopG.inv tab_ok 35 (fun _ : Unit => [(0, .rs 1 (nums ls)), (4, .int .i64 0), (5, .int .i64 1), (6, .int .i64 1)])
      (fun _ => []) (fun _ => 0) () (.of [] (by decide) ?_) ?_
    · conv => whnf
      refine ⟨by rfl, ?_⟩
      conv => whnf
      refine ⟨by rfl, ?_⟩
      conv => whnf
      refine ⟨by rfl, ?_⟩
      conv => whnf
      refine ⟨by rfl, ?_⟩
      conv => whnf
      exact trivial
    · intro _
      conv => whnf
      refine ⟨fun hh0 => ?_, fun hh0 => ?_⟩
      · simp only [decide_eq_true_eq, decide_eq_false_iff_not] at hh0
        conv => whnf
        refine both_f rfl ?_
        conv => whnf
        refine .same ?_
        conv => whnf
        exact tup_ii e1.symm e2.symm
      · simp only [decide_eq_true_eq, decide_eq_false_iff_not] at hh0
        conv => whnf
        refine .same ?_
        conv => whnf
        exact tup_ii e1.symm e2.symm
end Go.Proofs.Ythlomoacacebeae

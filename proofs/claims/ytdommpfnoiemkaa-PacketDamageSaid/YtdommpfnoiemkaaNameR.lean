/- Chapter 7: which strings are names, by the reference. -/
import Derived.Test.YtdommpfnoiemkaaNameV
import Derived.Test.YtdommpfnoiemkaaUnr
import Derived.Test.YtdommpfnoiemkaaAux3
import Derived.Test.YtdommpfnoiemkaaAux2
namespace Go.Proofs.Ytdommpfnoiemkaa
open Go.Sx
set_option linter.unusedSimpArgs false
set_option linter.unusedVariables false
theorem rletter_s (r : Int) : PSpec Try.prog 122 [.int .i64 r] (· = .bool (letR r)) := by
  refine .of_code' tab_ok Try.func122 (by rfl) rfl trivial ?_
  conv => whnf
  refine ⟨fun hh0 => ?_, fun hh0 => ?_⟩
  · simp only [decide_eq_true_eq, decide_eq_false_iff_not] at hh0
    conv => whnf
    refine ⟨fun hh1 => ?_, fun hh1 => ?_⟩
    · simp only [decide_eq_true_eq, decide_eq_false_iff_not] at hh1
      conv => whnf
      (refine bool_e ?_; unfold letR; symm; first | (refine decide_eq_true ?_; unfold LetP; omega) | (refine decide_eq_false ?_; unfold LetP; omega) | (refine decide_eq_decide.2 ?_; unfold LetP; omega))
    · simp only [decide_eq_true_eq, decide_eq_false_iff_not] at hh1
      conv => whnf
      refine both_t (by simp; omega) ?_
      conv => whnf
      refine both_f (by simp; omega) ?_
      conv => whnf
      refine both_t (by simp; omega) ?_
      conv => whnf
      refine both_f (by simp; omega) ?_
      conv => whnf
      refine both_f (by simp; omega) ?_
      conv => whnf
      refine both_f (by simp; omega) ?_
      conv => whnf
      refine both_f (by simp; omega) ?_
      conv => whnf
      refine ⟨fun hh2 => ?_, fun hh2 => ?_⟩
      · simp only [decide_eq_true_eq, decide_eq_false_iff_not] at hh2
        conv => whnf
        (refine bool_e ?_; unfold letR; symm; first | (refine decide_eq_true ?_; unfold LetP; omega) | (refine decide_eq_false ?_; unfold LetP; omega) | (refine decide_eq_decide.2 ?_; unfold LetP; omega))
      · simp only [decide_eq_true_eq, decide_eq_false_iff_not] at hh2
        conv => whnf
        (refine bool_e ?_; unfold letR; symm; first | (refine decide_eq_true ?_; unfold LetP; omega) | (refine decide_eq_false ?_; unfold LetP; omega) | (refine decide_eq_decide.2 ?_; unfold LetP; omega))
  · simp only [decide_eq_true_eq, decide_eq_false_iff_not] at hh0
    conv => whnf
    refine ⟨fun hh3 => ?_, fun hh3 => ?_⟩
    · simp only [decide_eq_true_eq, decide_eq_false_iff_not] at hh3
      conv => whnf
      refine ⟨fun hh4 => ?_, fun hh4 => ?_⟩
      · simp only [decide_eq_true_eq, decide_eq_false_iff_not] at hh4
        conv => whnf
        (refine bool_e ?_; unfold letR; symm; first | (refine decide_eq_true ?_; unfold LetP; omega) | (refine decide_eq_false ?_; unfold LetP; omega) | (refine decide_eq_decide.2 ?_; unfold LetP; omega))
      · simp only [decide_eq_true_eq, decide_eq_false_iff_not] at hh4
        conv => whnf
        refine both_t (by simp; omega) ?_
        conv => whnf
        refine both_f (by simp; omega) ?_
        conv => whnf
        refine both_f (by simp; omega) ?_
        conv => whnf
        refine ⟨fun hh5 => ?_, fun hh5 => ?_⟩
        · simp only [decide_eq_true_eq, decide_eq_false_iff_not] at hh5
          conv => whnf
          (refine bool_e ?_; unfold letR; symm; first | (refine decide_eq_true ?_; unfold LetP; omega) | (refine decide_eq_false ?_; unfold LetP; omega) | (refine decide_eq_decide.2 ?_; unfold LetP; omega))
        · simp only [decide_eq_true_eq, decide_eq_false_iff_not] at hh5
          conv => whnf
          refine both_f (by simp; omega) ?_
          conv => whnf
          refine both_f (by simp; omega) ?_
          conv => whnf
          (refine bool_e ?_; unfold letR; symm; first | (refine decide_eq_true ?_; unfold LetP; omega) | (refine decide_eq_false ?_; unfold LetP; omega) | (refine decide_eq_decide.2 ?_; unfold LetP; omega))
    · simp only [decide_eq_true_eq, decide_eq_false_iff_not] at hh3
      conv => whnf
      refine ⟨fun hh6 => ?_, fun hh6 => ?_⟩
      · simp only [decide_eq_true_eq, decide_eq_false_iff_not] at hh6
        conv => whnf
        refine ⟨fun hh7 => ?_, fun hh7 => ?_⟩
        · simp only [decide_eq_true_eq, decide_eq_false_iff_not] at hh7
          conv => whnf
          (refine bool_e ?_; unfold letR; symm; first | (refine decide_eq_true ?_; unfold LetP; omega) | (refine decide_eq_false ?_; unfold LetP; omega) | (refine decide_eq_decide.2 ?_; unfold LetP; omega))
        · simp only [decide_eq_true_eq, decide_eq_false_iff_not] at hh7
          conv => whnf
          refine both_f (by simp; omega) ?_
          conv => whnf
          refine both_f (by simp; omega) ?_
          conv => whnf
          refine both_f (by simp; omega) ?_
          conv => whnf
          refine both_f (by simp; omega) ?_
          conv => whnf
          (refine bool_e ?_; unfold letR; symm; first | (refine decide_eq_true ?_; unfold LetP; omega) | (refine decide_eq_false ?_; unfold LetP; omega) | (refine decide_eq_decide.2 ?_; unfold LetP; omega))
      · simp only [decide_eq_true_eq, decide_eq_false_iff_not] at hh6
        conv => whnf
        refine ⟨fun hh8 => ?_, fun hh8 => ?_⟩
        · simp only [decide_eq_true_eq, decide_eq_false_iff_not] at hh8
          conv => whnf
          (refine bool_e ?_; unfold letR; symm; first | (refine decide_eq_true ?_; unfold LetP; omega) | (refine decide_eq_false ?_; unfold LetP; omega) | (refine decide_eq_decide.2 ?_; unfold LetP; omega))
        · simp only [decide_eq_true_eq, decide_eq_false_iff_not] at hh8
          conv => whnf
          refine both_f (by simp; omega) ?_
          conv => whnf
          refine ⟨fun hh9 => ?_, fun hh9 => ?_⟩
          · simp only [decide_eq_true_eq, decide_eq_false_iff_not] at hh9
            conv => whnf
            (refine bool_e ?_; unfold letR; symm; first | (refine decide_eq_true ?_; unfold LetP; omega) | (refine decide_eq_false ?_; unfold LetP; omega) | (refine decide_eq_decide.2 ?_; unfold LetP; omega))
          · simp only [decide_eq_true_eq, decide_eq_false_iff_not] at hh9
            conv => whnf
            refine both_f (by simp; omega) ?_
            conv => whnf
            (refine bool_e ?_; unfold letR; symm; first | (refine decide_eq_true ?_; unfold LetP; omega) | (refine decide_eq_false ?_; unfold LetP; omega) | (refine decide_eq_decide.2 ?_; unfold LetP; omega))
theorem rfold_s (r : Int) : PSpec Try.prog 123 [.int .i64 r] (fun s => ∃ z, s = .int .i64 z) := by
  refine .of_code' tab_ok Try.func123 (by rfl) rfl trivial ?_
  conv => whnf
  refine ⟨fun hh0 => ?_, fun hh0 => ?_⟩
  · simp only [decide_eq_true_eq, decide_eq_false_iff_not] at hh0
    conv => whnf
    refine ⟨fun hh1 => ?_, fun hh1 => ?_⟩
    · simp only [decide_eq_true_eq, decide_eq_false_iff_not] at hh1
      conv => whnf
      (exact ⟨_, rfl⟩)
    · simp only [decide_eq_true_eq, decide_eq_false_iff_not] at hh1
      conv => whnf
      refine ⟨fun hh3 => ?_, fun hh3 => ?_⟩
      · simp only [decide_eq_true_eq, decide_eq_false_iff_not] at hh3
        conv => whnf
        refine ⟨fun hh4 => ?_, fun hh4 => ?_⟩
        · simp only [decide_eq_true_eq, decide_eq_false_iff_not] at hh4
          conv => whnf
          refine ⟨fun hh5 => ?_, fun hh5 => ?_⟩
          · simp only [decide_eq_true_eq, decide_eq_false_iff_not] at hh5
            conv => whnf
            (exact ⟨_, rfl⟩)
          · simp only [decide_eq_true_eq, decide_eq_false_iff_not] at hh5
            conv => whnf
            refine both_f (by simp; omega) ?_
            conv => whnf
            (exact ⟨_, rfl⟩)
        · simp only [decide_eq_true_eq, decide_eq_false_iff_not] at hh4
          conv => whnf
          refine ⟨fun hh8 => ?_, fun hh8 => ?_⟩
          · simp only [decide_eq_true_eq, decide_eq_false_iff_not] at hh8
            conv => whnf
            refine ⟨fun hh9 => ?_, fun hh9 => ?_⟩
            · simp only [decide_eq_true_eq, decide_eq_false_iff_not] at hh9
              conv => whnf
              refine ⟨fun hh10 => ?_, fun hh10 => ?_⟩
              · simp only [decide_eq_true_eq, decide_eq_false_iff_not] at hh10
                conv => whnf
                (exact ⟨_, rfl⟩)
              · simp only [decide_eq_true_eq, decide_eq_false_iff_not] at hh10
                conv => whnf
                (exact ⟨_, rfl⟩)
            · simp only [decide_eq_true_eq, decide_eq_false_iff_not] at hh9
              conv => whnf
              (exact ⟨_, rfl⟩)
          · simp only [decide_eq_true_eq, decide_eq_false_iff_not] at hh8
            conv => whnf
            (exact ⟨_, rfl⟩)
      · simp only [decide_eq_true_eq, decide_eq_false_iff_not] at hh3
        conv => whnf
        refine both_f (by simp; omega) ?_
        conv => whnf
        (exact ⟨_, rfl⟩)
  · simp only [decide_eq_true_eq, decide_eq_false_iff_not] at hh0
    conv => whnf
    refine both_f (by simp; omega) ?_
    conv => whnf
    refine both_f (by simp; omega) ?_
    conv => whnf
    (exact ⟨_, rfl⟩)
theorem nm_bad {s : List UInt8} {l : List Int} {i : Nat} (h0 : nmF (bA s) 0 = (l.all letR && nmF (bA s) i)) (hi : i < s.length) (hd : (Utf8.decode (bA s) i).1 = 65533) : nameOk s = false := by
  unfold nameOk
  rw [h0, nmF_step (by rw [bA_size]; exact hi), hd]
  simp only [show letR ((65533 : Nat) : Int) = false from by decide, Bool.false_and, Bool.and_false]
theorem tn1 (n : Nat) : ((n : Int) + 1).toNat = n + 1 := by omega
theorem tn2 (n : Nat) : ((n : Int) + 2).toNat = n + 2 := by omega
theorem tn3 (n : Nat) : ((n : Int) + 3).toNat = n + 3 := by omega
theorem nums_snoc (l : List Int) (z : Int) : nums (l ++ [z]) = nums l ++ [[.int .i64 z]] := by simp [nums]
theorem og_get {ls : List Int} {i : Nat} (h : i < ls.length) : (nums ls)[(i : Int).toNat]? = some [SV.int .i64 (ls.getD i 0)] := by
  simp [nums, List.getD, List.getElem?_eq_getElem h]
theorem all_bad {l : List Int} {i : Nat} (h : i < l.length) (hb : letR (l.getD i 0) = false) : l.all letR = false := by
  rw [List.all_eq_false]
  exact ⟨l[i], List.getElem_mem h, by simpa [List.getD, List.getElem?_eq_getElem h] using hb⟩
theorem fold_next {l l' : List Int} {i : Nat} {z : Int} (h : i ≤ l.length ∧ l'.length = l.length ∧ l'.drop i = l.drop i ∧ (l.take i).all letR = true) (hi : i < l'.length) (hb : letR (l.getD i 0) = true) :
    i + 1 ≤ l.length ∧ (l'.set i z).length = l.length ∧ (l'.set i z).drop (i + 1) = l.drop (i + 1) ∧ (l.take (i + 1)).all letR = true := by
  obtain ⟨h1, h2, h3, h4⟩ := h
  have hi2 : i < l.length := by omega
  refine ⟨by omega, by simpa using h2, ?_, ?_⟩
  · rw [List.drop_set_of_lt (by omega)]
    have := congrArg (List.drop 1) h3
    simpa [List.drop_drop] using this
  · rw [List.take_add_one, List.all_append, h4]
    simpa [List.getElem?_eq_getElem hi2, List.getD] using hb
theorem nums_set (l : List Int) (i : Nat) (z : Int) : (nums l).set i [.int .i64 z] = nums (l.set i z) := by simp [nums, List.map_set]
theorem nm_next {s : List UInt8} {l : List Int} {i : Nat} (h : i ≤ s.length ∧ l.length ≤ i ∧ nmF (bA s) 0 = (l.all letR && nmF (bA s) i)) (hi : i < s.length) (hn : i + (Utf8.decode (bA s) i).2 ≤ s.length) :
    i + (Utf8.decode (bA s) i).2 ≤ s.length ∧ (l ++ [((Utf8.decode (bA s) i).1 : Int)]).length ≤ i + (Utf8.decode (bA s) i).2 ∧ nmF (bA s) 0 = ((l ++ [((Utf8.decode (bA s) i).1 : Int)]).all letR && nmF (bA s) (i + (Utf8.decode (bA s) i).2)) := by
  have hw := width1 (bA s) i (by rw [bA_size]; exact hi)
  refine ⟨hn, by simp; omega, ?_⟩
  rw [h.2.2, nmF_step (by rw [bA_size]; exact hi)]
  simp [Bool.and_assoc]
set_option maxHeartbeats 4000000 in
theorem rvalid_s (s : List UInt8) (hs : s.length ≤ 1000) : PSpec Try.prog 102 [.str s] (· = .bool (nameOk s)) := by
  refine .of_code' tab_ok Try.func102 (by rfl) rfl trivial ?_
  conv => whnf
  refine CallG.of_code tab_ok Try.func117 (by rfl) rfl ?_
  conv => whnf
  refine CallG.of_code tab_ok Try.func121 (by rfl) rfl ?_
  conv => whnf
  refine LoopG.inv tab_ok 120 (fun x : { x : List Int × Nat // x.2 ≤ s.length ∧ x.1.length ≤ x.2 ∧ nmF (bA s) 0 = (x.1.all letR && nmF (bA s) x.2) } => [(0, .str s), (4, .sl 0), (5, .int .i64 (x.1.2 : Int))])
    (fun x => [.row 3 1 (nums x.1.1)]) (fun x => s.length - x.1.2) ⟨([], 0), by simp, by simp, rfl⟩ (.of [none] (by rfl) ?_) ?_
  · conv => whnf
    refine ⟨by rfl, ?_⟩
    conv => whnf
    refine ⟨by rfl, ?_⟩
    conv => whnf
    refine ⟨by rfl, ?_⟩
    conv => whnf
    exact trivial
  · intro x
    have hx := x.2
    conv => whnf
    refine ⟨fun hb => ?_, fun hb => ?_⟩
    · have hb : x.1.2 < s.length := by simp only [decide_eq_true_eq] at hb; omega
      have k0 := (s.getD x.1.2 0).toNat_lt
      have k1 := (s.getD (x.1.2 + 1) 0).toNat_lt
      have k2 := (s.getD (x.1.2 + 2) 0).toNat_lt
      have k3 := (s.getD (x.1.2 + 3) 0).toNat_lt
      conv => whnf
      refine DrawG.of mixed tab_ok ?_
      conv => whnf
      refine ⟨by omega, ?_⟩
      conv => whnf
      refine ⟨by kernel_rfl, ?_⟩
      conv => whnf
      refine ⟨by omega, ?_⟩
      conv => whnf
      refine ⟨fun hh0 => ?_, fun hh0 => ?_⟩
      · simp only [decide_eq_true_eq, decide_eq_false_iff_not] at hh0
        conv => whnf
        refine ⟨fun hh1 => ?_, fun hh1 => ?_⟩
        · simp only [decide_eq_true_eq, decide_eq_false_iff_not] at hh1
          conv => whnf
          refine .same ?_
          conv => whnf
          (refine bool_e (nm_bad hx.2.2 hb ?_).symm; rw [dec_eq s x.1.2 hb]; simp (disch := omega) only [w64, Int.toNat_natCast, tn1, tn2, tn3, Int.reduceAdd, List.length_cons, List.length_nil, nums_len] at *; rw [if_neg (by omega), if_neg (by omega), if_neg (by omega), if_neg (by omega)])
        · simp only [decide_eq_true_eq, decide_eq_false_iff_not] at hh1
          conv => whnf
          refine LoopG.unr tab_ok 4 ?_
          conv => whnf
          refine both_f rfl ?_
          conv => whnf
          refine ⟨fun hh2 => ?_, fun hh2 => ?_⟩
          · simp only [decide_eq_true_eq, decide_eq_false_iff_not] at hh2
            conv => whnf
            refine .same ?_
            conv => whnf
            (refine bool_e (nm_bad hx.2.2 hb ?_).symm; rw [dec_eq s x.1.2 hb]; simp (disch := omega) only [w64, Int.toNat_natCast, tn1, tn2, tn3, Int.reduceAdd, List.length_cons, List.length_nil, nums_len] at *; rw [if_neg (by omega), if_neg (by omega), if_neg (by omega), if_neg (by omega)])
          · simp only [decide_eq_true_eq, decide_eq_false_iff_not] at hh2
            conv => whnf
            refine ⟨fun hh3 => ?_, fun hh3 => ?_⟩
            · simp only [decide_eq_true_eq, decide_eq_false_iff_not] at hh3
              conv => whnf
              refine .same ?_
              conv => whnf
              (refine bool_e (nm_bad hx.2.2 hb ?_).symm; rw [dec_eq s x.1.2 hb]; simp (disch := omega) only [w64, Int.toNat_natCast, tn1, tn2, tn3, Int.reduceAdd, List.length_cons, List.length_nil, nums_len] at *; rw [if_neg (by omega), if_neg (by omega), if_neg (by omega), if_neg (by omega)])
            · simp only [decide_eq_true_eq, decide_eq_false_iff_not] at hh3
              conv => whnf
              refine ⟨fun hh4 => ?_, fun hh4 => ?_⟩
              · simp only [decide_eq_true_eq, decide_eq_false_iff_not] at hh4
                conv => whnf
                refine both_t (by (simp (disch := omega) only [w64, Int.toNat_natCast, tn1, tn2, tn3, Int.reduceAdd, List.length_cons, List.length_nil, nums_len] at *; omega)) ?_
                conv => whnf
                refine .same ?_
                conv => whnf
                (refine bool_e (nm_bad hx.2.2 hb ?_).symm; rw [dec_eq s x.1.2 hb]; simp (disch := omega) only [w64, Int.toNat_natCast, tn1, tn2, tn3, Int.reduceAdd, List.length_cons, List.length_nil, nums_len] at *; rw [if_neg (by omega), if_neg (by omega), if_neg (by omega), if_neg (by omega)])
              · simp only [decide_eq_true_eq, decide_eq_false_iff_not] at hh4
                conv => whnf
                refine ⟨by (simp (disch := omega) only [w64, Int.toNat_natCast, tn1, tn2, tn3, Int.reduceAdd, List.length_cons, List.length_nil, nums_len] at *; omega), ?_⟩
                conv => whnf
                (have hd := dec_eq s x.1.2 hb; simp (disch := omega) only [w64, Int.toNat_natCast, tn1, tn2, tn3, Int.reduceAdd, List.length_cons, List.length_nil, nums_len] at *; (first | rw [if_pos (by omega)] at hd | rw [if_neg (by omega), if_pos (by omega)] at hd | rw [if_neg (by omega), if_neg (by omega), if_pos (by omega)] at hd | rw [if_neg (by omega), if_neg (by omega), if_neg (by omega), if_pos (by omega)] at hd); have e1 := congrArg Prod.fst hd; have e2 := congrArg Prod.snd hd; simp only at e1 e2; refine ⟨⟨(x.1.1 ++ [((Utf8.decode (bA s) x.1.2).1 : Int)], x.1.2 + (Utf8.decode (bA s) x.1.2).2), nm_next hx hb (by omega)⟩, by show s.length - (x.1.2 + (Utf8.decode (bA s) x.1.2).2) < s.length - x.1.2; omega, .of [some 2] (by rfl) ?_⟩)
                conv => whnf
                refine ⟨by rfl, ?_⟩
                conv => whnf
                refine ⟨by simp; omega, ?_⟩
                conv => whnf
                refine ⟨by (exact (congrArg (fun z => nums x.1.1 ++ [[SV.int .i64 z]]) (by omega)).trans (nums_snoc _ _).symm), ?_⟩
                conv => whnf
                exact trivial
      · simp only [decide_eq_true_eq, decide_eq_false_iff_not] at hh0
        conv => whnf
        refine ⟨by omega, ?_⟩
        conv => whnf
        refine ⟨fun hh6 => ?_, fun hh6 => ?_⟩
        · simp only [decide_eq_true_eq, decide_eq_false_iff_not] at hh6
          conv => whnf
          refine ⟨by omega, ?_⟩
          conv => whnf
          refine ⟨fun hh7 => ?_, fun hh7 => ?_⟩
          · simp only [decide_eq_true_eq, decide_eq_false_iff_not] at hh7
            conv => whnf
            refine ⟨fun hh8 => ?_, fun hh8 => ?_⟩
            · simp only [decide_eq_true_eq, decide_eq_false_iff_not] at hh8
              conv => whnf
              refine .same ?_
              conv => whnf
              (refine bool_e (nm_bad hx.2.2 hb ?_).symm; rw [dec_eq s x.1.2 hb]; simp (disch := omega) only [w64, Int.toNat_natCast, tn1, tn2, tn3, Int.reduceAdd, List.length_cons, List.length_nil, nums_len] at *; rw [if_neg (by omega), if_neg (by omega), if_neg (by omega), if_neg (by omega)])
            · simp only [decide_eq_true_eq, decide_eq_false_iff_not] at hh8
              conv => whnf
              refine LoopG.unr tab_ok 4 ?_
              conv => whnf
              refine both_t rfl ?_
              conv => whnf
              refine ⟨by (simp (disch := omega) only [w64, Int.toNat_natCast, tn1, tn2, tn3, Int.reduceAdd, List.length_cons, List.length_nil, nums_len] at *; omega), ?_⟩
              conv => whnf
              refine ⟨fun hh9 => ?_, fun hh9 => ?_⟩
              · simp only [decide_eq_true_eq, decide_eq_false_iff_not] at hh9
                conv => whnf
                refine .same ?_
                conv => whnf
                (refine bool_e (nm_bad hx.2.2 hb ?_).symm; rw [dec_eq s x.1.2 hb]; simp (disch := omega) only [w64, Int.toNat_natCast, tn1, tn2, tn3, Int.reduceAdd, List.length_cons, List.length_nil, nums_len] at *; rw [if_neg (by omega), if_neg (by omega), if_neg (by omega), if_neg (by omega)])
              · simp only [decide_eq_true_eq, decide_eq_false_iff_not] at hh9
                conv => whnf
                refine ⟨by (simp (disch := omega) only [w64, Int.toNat_natCast, tn1, tn2, tn3, Int.reduceAdd, List.length_cons, List.length_nil, nums_len] at *; omega), ?_⟩
                conv => whnf
                refine ⟨fun hh10 => ?_, fun hh10 => ?_⟩
                · simp only [decide_eq_true_eq, decide_eq_false_iff_not] at hh10
                  conv => whnf
                  refine .same ?_
                  conv => whnf
                  (refine bool_e (nm_bad hx.2.2 hb ?_).symm; rw [dec_eq s x.1.2 hb]; simp (disch := omega) only [w64, Int.toNat_natCast, tn1, tn2, tn3, Int.reduceAdd, List.length_cons, List.length_nil, nums_len] at *; rw [if_neg (by omega), if_neg (by omega), if_neg (by omega), if_neg (by omega)])
                · simp only [decide_eq_true_eq, decide_eq_false_iff_not] at hh10
                  conv => whnf
                  refine ⟨by (simp (disch := omega) only [w64, Int.toNat_natCast, tn1, tn2, tn3, Int.reduceAdd, List.length_cons, List.length_nil, nums_len] at *; omega), ?_⟩
                  conv => whnf
                  refine both_f rfl ?_
                  conv => whnf
                  refine ⟨fun hh11 => ?_, fun hh11 => ?_⟩
                  · simp only [decide_eq_true_eq, decide_eq_false_iff_not] at hh11
                    conv => whnf
                    refine .same ?_
                    conv => whnf
                    (refine bool_e (nm_bad hx.2.2 hb ?_).symm; rw [dec_eq s x.1.2 hb]; simp (disch := omega) only [w64, Int.toNat_natCast, tn1, tn2, tn3, Int.reduceAdd, List.length_cons, List.length_nil, nums_len] at *; rw [if_neg (by omega), if_neg (by omega), if_neg (by omega), if_neg (by omega)])
                  · simp only [decide_eq_true_eq, decide_eq_false_iff_not] at hh11
                    conv => whnf
                    refine ⟨fun hh12 => ?_, fun hh12 => ?_⟩
                    · simp only [decide_eq_true_eq, decide_eq_false_iff_not] at hh12
                      conv => whnf
                      refine .same ?_
                      conv => whnf
                      (refine bool_e (nm_bad hx.2.2 hb ?_).symm; rw [dec_eq s x.1.2 hb]; simp (disch := omega) only [w64, Int.toNat_natCast, tn1, tn2, tn3, Int.reduceAdd, List.length_cons, List.length_nil, nums_len] at *; rw [if_neg (by omega), if_neg (by omega), if_neg (by omega), if_neg (by omega)])
                    · simp only [decide_eq_true_eq, decide_eq_false_iff_not] at hh12
                      conv => whnf
                      refine ⟨fun hh13 => ?_, fun hh13 => ?_⟩
                      · simp only [decide_eq_true_eq, decide_eq_false_iff_not] at hh13
                        conv => whnf
                        refine both_t (by (simp (disch := omega) only [w64, Int.toNat_natCast, tn1, tn2, tn3, Int.reduceAdd, List.length_cons, List.length_nil, nums_len] at *; omega)) ?_
                        conv => whnf
                        refine .same ?_
                        conv => whnf
                        (refine bool_e (nm_bad hx.2.2 hb ?_).symm; rw [dec_eq s x.1.2 hb]; simp (disch := omega) only [w64, Int.toNat_natCast, tn1, tn2, tn3, Int.reduceAdd, List.length_cons, List.length_nil, nums_len] at *; rw [if_neg (by omega), if_neg (by omega), if_neg (by omega), if_neg (by omega)])
                      · simp only [decide_eq_true_eq, decide_eq_false_iff_not] at hh13
                        conv => whnf
                        refine ⟨by (simp (disch := omega) only [w64, Int.toNat_natCast, tn1, tn2, tn3, Int.reduceAdd, List.length_cons, List.length_nil, nums_len] at *; omega), ?_⟩
                        conv => whnf
                        (have hd := dec_eq s x.1.2 hb; simp (disch := omega) only [w64, Int.toNat_natCast, tn1, tn2, tn3, Int.reduceAdd, List.length_cons, List.length_nil, nums_len] at *; (first | rw [if_pos (by omega)] at hd | rw [if_neg (by omega), if_pos (by omega)] at hd | rw [if_neg (by omega), if_neg (by omega), if_pos (by omega)] at hd | rw [if_neg (by omega), if_neg (by omega), if_neg (by omega), if_pos (by omega)] at hd); have e1 := congrArg Prod.fst hd; have e2 := congrArg Prod.snd hd; simp only at e1 e2; refine ⟨⟨(x.1.1 ++ [((Utf8.decode (bA s) x.1.2).1 : Int)], x.1.2 + (Utf8.decode (bA s) x.1.2).2), nm_next hx hb (by omega)⟩, by show s.length - (x.1.2 + (Utf8.decode (bA s) x.1.2).2) < s.length - x.1.2; omega, .of [some 2] (by rfl) ?_⟩)
                        conv => whnf
                        refine ⟨by rfl, ?_⟩
                        conv => whnf
                        refine ⟨by simp; omega, ?_⟩
                        conv => whnf
                        refine ⟨by (exact (congrArg (fun z => nums x.1.1 ++ [[SV.int .i64 z]]) (by omega)).trans (nums_snoc _ _).symm), ?_⟩
                        conv => whnf
                        exact trivial
          · simp only [decide_eq_true_eq, decide_eq_false_iff_not] at hh7
            conv => whnf
            refine ⟨by omega, ?_⟩
            conv => whnf
            refine ⟨fun hh15 => ?_, fun hh15 => ?_⟩
            · simp only [decide_eq_true_eq, decide_eq_false_iff_not] at hh15
              conv => whnf
              refine ⟨by omega, ?_⟩
              conv => whnf
              refine ⟨fun hh16 => ?_, fun hh16 => ?_⟩
              · simp only [decide_eq_true_eq, decide_eq_false_iff_not] at hh16
                conv => whnf
                refine ⟨fun hh17 => ?_, fun hh17 => ?_⟩
                · simp only [decide_eq_true_eq, decide_eq_false_iff_not] at hh17
                  conv => whnf
                  refine .same ?_
                  conv => whnf
                  (refine bool_e (nm_bad hx.2.2 hb ?_).symm; rw [dec_eq s x.1.2 hb]; simp (disch := omega) only [w64, Int.toNat_natCast, tn1, tn2, tn3, Int.reduceAdd, List.length_cons, List.length_nil, nums_len] at *; rw [if_neg (by omega), if_neg (by omega), if_neg (by omega), if_neg (by omega)])
                · simp only [decide_eq_true_eq, decide_eq_false_iff_not] at hh17
                  conv => whnf
                  refine LoopG.unr tab_ok 4 ?_
                  conv => whnf
                  refine both_t rfl ?_
                  conv => whnf
                  refine ⟨by (simp (disch := omega) only [w64, Int.toNat_natCast, tn1, tn2, tn3, Int.reduceAdd, List.length_cons, List.length_nil, nums_len] at *; omega), ?_⟩
                  conv => whnf
                  refine ⟨fun hh18 => ?_, fun hh18 => ?_⟩
                  · simp only [decide_eq_true_eq, decide_eq_false_iff_not] at hh18
                    conv => whnf
                    refine .same ?_
                    conv => whnf
                    (refine bool_e (nm_bad hx.2.2 hb ?_).symm; rw [dec_eq s x.1.2 hb]; simp (disch := omega) only [w64, Int.toNat_natCast, tn1, tn2, tn3, Int.reduceAdd, List.length_cons, List.length_nil, nums_len] at *; rw [if_neg (by omega), if_neg (by omega), if_neg (by omega), if_neg (by omega)])
                  · simp only [decide_eq_true_eq, decide_eq_false_iff_not] at hh18
                    conv => whnf
                    refine ⟨by (simp (disch := omega) only [w64, Int.toNat_natCast, tn1, tn2, tn3, Int.reduceAdd, List.length_cons, List.length_nil, nums_len] at *; omega), ?_⟩
                    conv => whnf
                    refine ⟨fun hh19 => ?_, fun hh19 => ?_⟩
                    · simp only [decide_eq_true_eq, decide_eq_false_iff_not] at hh19
                      conv => whnf
                      refine .same ?_
                      conv => whnf
                      (refine bool_e (nm_bad hx.2.2 hb ?_).symm; rw [dec_eq s x.1.2 hb]; simp (disch := omega) only [w64, Int.toNat_natCast, tn1, tn2, tn3, Int.reduceAdd, List.length_cons, List.length_nil, nums_len] at *; rw [if_neg (by omega), if_neg (by omega), if_neg (by omega), if_neg (by omega)])
                    · simp only [decide_eq_true_eq, decide_eq_false_iff_not] at hh19
                      conv => whnf
                      refine ⟨by (simp (disch := omega) only [w64, Int.toNat_natCast, tn1, tn2, tn3, Int.reduceAdd, List.length_cons, List.length_nil, nums_len] at *; omega), ?_⟩
                      conv => whnf
                      refine both_t rfl ?_
                      conv => whnf
                      refine ⟨by (simp (disch := omega) only [w64, Int.toNat_natCast, tn1, tn2, tn3, Int.reduceAdd, List.length_cons, List.length_nil, nums_len] at *; omega), ?_⟩
                      conv => whnf
                      refine ⟨fun hh20 => ?_, fun hh20 => ?_⟩
                      · simp only [decide_eq_true_eq, decide_eq_false_iff_not] at hh20
                        conv => whnf
                        refine .same ?_
                        conv => whnf
                        (refine bool_e (nm_bad hx.2.2 hb ?_).symm; rw [dec_eq s x.1.2 hb]; simp (disch := omega) only [w64, Int.toNat_natCast, tn1, tn2, tn3, Int.reduceAdd, List.length_cons, List.length_nil, nums_len] at *; rw [if_neg (by omega), if_neg (by omega), if_neg (by omega), if_neg (by omega)])
                      · simp only [decide_eq_true_eq, decide_eq_false_iff_not] at hh20
                        conv => whnf
                        refine ⟨by (simp (disch := omega) only [w64, Int.toNat_natCast, tn1, tn2, tn3, Int.reduceAdd, List.length_cons, List.length_nil, nums_len] at *; omega), ?_⟩
                        conv => whnf
                        refine ⟨fun hh21 => ?_, fun hh21 => ?_⟩
                        · simp only [decide_eq_true_eq, decide_eq_false_iff_not] at hh21
                          conv => whnf
                          refine .same ?_
                          conv => whnf
                          (refine bool_e (nm_bad hx.2.2 hb ?_).symm; rw [dec_eq s x.1.2 hb]; simp (disch := omega) only [w64, Int.toNat_natCast, tn1, tn2, tn3, Int.reduceAdd, List.length_cons, List.length_nil, nums_len] at *; rw [if_neg (by omega), if_neg (by omega), if_neg (by omega), if_neg (by omega)])
                        · simp only [decide_eq_true_eq, decide_eq_false_iff_not] at hh21
                          conv => whnf
                          refine ⟨by (simp (disch := omega) only [w64, Int.toNat_natCast, tn1, tn2, tn3, Int.reduceAdd, List.length_cons, List.length_nil, nums_len] at *; omega), ?_⟩
                          conv => whnf
                          refine both_f rfl ?_
                          conv => whnf
                          refine ⟨fun hh22 => ?_, fun hh22 => ?_⟩
                          · simp only [decide_eq_true_eq, decide_eq_false_iff_not] at hh22
                            conv => whnf
                            refine .same ?_
                            conv => whnf
                            (refine bool_e (nm_bad hx.2.2 hb ?_).symm; rw [dec_eq s x.1.2 hb]; simp (disch := omega) only [w64, Int.toNat_natCast, tn1, tn2, tn3, Int.reduceAdd, List.length_cons, List.length_nil, nums_len] at *; rw [if_neg (by omega), if_neg (by omega), if_neg (by omega), if_neg (by omega)])
                          · simp only [decide_eq_true_eq, decide_eq_false_iff_not] at hh22
                            conv => whnf
                            refine ⟨fun hh23 => ?_, fun hh23 => ?_⟩
                            · simp only [decide_eq_true_eq, decide_eq_false_iff_not] at hh23
                              conv => whnf
                              refine .same ?_
                              conv => whnf
                              (refine bool_e (nm_bad hx.2.2 hb ?_).symm; rw [dec_eq s x.1.2 hb]; simp (disch := omega) only [w64, Int.toNat_natCast, tn1, tn2, tn3, Int.reduceAdd, List.length_cons, List.length_nil, nums_len] at *; rw [if_neg (by omega), if_neg (by omega), if_neg (by omega), if_neg (by omega)])
                            · simp only [decide_eq_true_eq, decide_eq_false_iff_not] at hh23
                              conv => whnf
                              refine ⟨fun hh24 => ?_, fun hh24 => ?_⟩
                              · simp only [decide_eq_true_eq, decide_eq_false_iff_not] at hh24
                                conv => whnf
                                refine ⟨fun hh25 => ?_, fun hh25 => ?_⟩
                                · simp only [decide_eq_true_eq, decide_eq_false_iff_not] at hh25
                                  conv => whnf
                                  refine .same ?_
                                  conv => whnf
                                  (refine bool_e (nm_bad hx.2.2 hb ?_).symm; rw [dec_eq s x.1.2 hb]; simp (disch := omega) only [w64, Int.toNat_natCast, tn1, tn2, tn3, Int.reduceAdd, List.length_cons, List.length_nil, nums_len] at *; rw [if_neg (by omega), if_neg (by omega), if_neg (by omega), if_neg (by omega)])
                                · simp only [decide_eq_true_eq, decide_eq_false_iff_not] at hh25
                                  conv => whnf
                                  refine ⟨by (simp (disch := omega) only [w64, Int.toNat_natCast, tn1, tn2, tn3, Int.reduceAdd, List.length_cons, List.length_nil, nums_len] at *; omega), ?_⟩
                                  conv => whnf
                                  (have hd := dec_eq s x.1.2 hb; simp (disch := omega) only [w64, Int.toNat_natCast, tn1, tn2, tn3, Int.reduceAdd, List.length_cons, List.length_nil, nums_len] at *; (first | rw [if_pos (by omega)] at hd | rw [if_neg (by omega), if_pos (by omega)] at hd | rw [if_neg (by omega), if_neg (by omega), if_pos (by omega)] at hd | rw [if_neg (by omega), if_neg (by omega), if_neg (by omega), if_pos (by omega)] at hd); have e1 := congrArg Prod.fst hd; have e2 := congrArg Prod.snd hd; simp only at e1 e2; refine ⟨⟨(x.1.1 ++ [((Utf8.decode (bA s) x.1.2).1 : Int)], x.1.2 + (Utf8.decode (bA s) x.1.2).2), nm_next hx hb (by omega)⟩, by show s.length - (x.1.2 + (Utf8.decode (bA s) x.1.2).2) < s.length - x.1.2; omega, .of [some 2] (by rfl) ?_⟩)
                                  conv => whnf
                                  refine ⟨by rfl, ?_⟩
                                  conv => whnf
                                  refine ⟨by simp; omega, ?_⟩
                                  conv => whnf
                                  refine ⟨by (exact (congrArg (fun z => nums x.1.1 ++ [[SV.int .i64 z]]) (by omega)).trans (nums_snoc _ _).symm), ?_⟩
                                  conv => whnf
                                  exact trivial
                              · simp only [decide_eq_true_eq, decide_eq_false_iff_not] at hh24
                                conv => whnf
                                refine ⟨by (simp (disch := omega) only [w64, Int.toNat_natCast, tn1, tn2, tn3, Int.reduceAdd, List.length_cons, List.length_nil, nums_len] at *; omega), ?_⟩
                                conv => whnf
                                (have hd := dec_eq s x.1.2 hb; simp (disch := omega) only [w64, Int.toNat_natCast, tn1, tn2, tn3, Int.reduceAdd, List.length_cons, List.length_nil, nums_len] at *; (first | rw [if_pos (by omega)] at hd | rw [if_neg (by omega), if_pos (by omega)] at hd | rw [if_neg (by omega), if_neg (by omega), if_pos (by omega)] at hd | rw [if_neg (by omega), if_neg (by omega), if_neg (by omega), if_pos (by omega)] at hd); have e1 := congrArg Prod.fst hd; have e2 := congrArg Prod.snd hd; simp only at e1 e2; refine ⟨⟨(x.1.1 ++ [((Utf8.decode (bA s) x.1.2).1 : Int)], x.1.2 + (Utf8.decode (bA s) x.1.2).2), nm_next hx hb (by omega)⟩, by show s.length - (x.1.2 + (Utf8.decode (bA s) x.1.2).2) < s.length - x.1.2; omega, .of [some 2] (by rfl) ?_⟩)
                                conv => whnf
                                refine ⟨by rfl, ?_⟩
                                conv => whnf
                                refine ⟨by simp; omega, ?_⟩
                                conv => whnf
                                refine ⟨by (exact (congrArg (fun z => nums x.1.1 ++ [[SV.int .i64 z]]) (by omega)).trans (nums_snoc _ _).symm), ?_⟩
                                conv => whnf
                                exact trivial
              · simp only [decide_eq_true_eq, decide_eq_false_iff_not] at hh16
                conv => whnf
                refine ⟨by omega, ?_⟩
                conv => whnf
                refine ⟨fun hh28 => ?_, fun hh28 => ?_⟩
                · simp only [decide_eq_true_eq, decide_eq_false_iff_not] at hh28
                  conv => whnf
                  refine ⟨by omega, ?_⟩
                  conv => whnf
                  refine ⟨fun hh29 => ?_, fun hh29 => ?_⟩
                  · simp only [decide_eq_true_eq, decide_eq_false_iff_not] at hh29
                    conv => whnf
                    refine ⟨fun hh30 => ?_, fun hh30 => ?_⟩
                    · simp only [decide_eq_true_eq, decide_eq_false_iff_not] at hh30
                      conv => whnf
                      refine .same ?_
                      conv => whnf
                      (refine bool_e (nm_bad hx.2.2 hb ?_).symm; rw [dec_eq s x.1.2 hb]; simp (disch := omega) only [w64, Int.toNat_natCast, tn1, tn2, tn3, Int.reduceAdd, List.length_cons, List.length_nil, nums_len] at *; rw [if_neg (by omega), if_neg (by omega), if_neg (by omega), if_neg (by omega)])
                    · simp only [decide_eq_true_eq, decide_eq_false_iff_not] at hh30
                      conv => whnf
                      refine LoopG.unr tab_ok 4 ?_
                      conv => whnf
                      refine both_t rfl ?_
                      conv => whnf
                      refine ⟨by (simp (disch := omega) only [w64, Int.toNat_natCast, tn1, tn2, tn3, Int.reduceAdd, List.length_cons, List.length_nil, nums_len] at *; omega), ?_⟩
                      conv => whnf
                      refine ⟨fun hh31 => ?_, fun hh31 => ?_⟩
                      · simp only [decide_eq_true_eq, decide_eq_false_iff_not] at hh31
                        conv => whnf
                        refine .same ?_
                        conv => whnf
                        (refine bool_e (nm_bad hx.2.2 hb ?_).symm; rw [dec_eq s x.1.2 hb]; simp (disch := omega) only [w64, Int.toNat_natCast, tn1, tn2, tn3, Int.reduceAdd, List.length_cons, List.length_nil, nums_len] at *; rw [if_neg (by omega), if_neg (by omega), if_neg (by omega), if_neg (by omega)])
                      · simp only [decide_eq_true_eq, decide_eq_false_iff_not] at hh31
                        conv => whnf
                        refine ⟨by (simp (disch := omega) only [w64, Int.toNat_natCast, tn1, tn2, tn3, Int.reduceAdd, List.length_cons, List.length_nil, nums_len] at *; omega), ?_⟩
                        conv => whnf
                        refine ⟨fun hh32 => ?_, fun hh32 => ?_⟩
                        · simp only [decide_eq_true_eq, decide_eq_false_iff_not] at hh32
                          conv => whnf
                          refine .same ?_
                          conv => whnf
                          (refine bool_e (nm_bad hx.2.2 hb ?_).symm; rw [dec_eq s x.1.2 hb]; simp (disch := omega) only [w64, Int.toNat_natCast, tn1, tn2, tn3, Int.reduceAdd, List.length_cons, List.length_nil, nums_len] at *; rw [if_neg (by omega), if_neg (by omega), if_neg (by omega), if_neg (by omega)])
                        · simp only [decide_eq_true_eq, decide_eq_false_iff_not] at hh32
                          conv => whnf
                          refine ⟨by (simp (disch := omega) only [w64, Int.toNat_natCast, tn1, tn2, tn3, Int.reduceAdd, List.length_cons, List.length_nil, nums_len] at *; omega), ?_⟩
                          conv => whnf
                          refine both_t rfl ?_
                          conv => whnf
                          refine ⟨by (simp (disch := omega) only [w64, Int.toNat_natCast, tn1, tn2, tn3, Int.reduceAdd, List.length_cons, List.length_nil, nums_len] at *; omega), ?_⟩
                          conv => whnf
                          refine ⟨fun hh33 => ?_, fun hh33 => ?_⟩
                          · simp only [decide_eq_true_eq, decide_eq_false_iff_not] at hh33
                            conv => whnf
                            refine .same ?_
                            conv => whnf
                            (refine bool_e (nm_bad hx.2.2 hb ?_).symm; rw [dec_eq s x.1.2 hb]; simp (disch := omega) only [w64, Int.toNat_natCast, tn1, tn2, tn3, Int.reduceAdd, List.length_cons, List.length_nil, nums_len] at *; rw [if_neg (by omega), if_neg (by omega), if_neg (by omega), if_neg (by omega)])
                          · simp only [decide_eq_true_eq, decide_eq_false_iff_not] at hh33
                            conv => whnf
                            refine ⟨by (simp (disch := omega) only [w64, Int.toNat_natCast, tn1, tn2, tn3, Int.reduceAdd, List.length_cons, List.length_nil, nums_len] at *; omega), ?_⟩
                            conv => whnf
                            refine ⟨fun hh34 => ?_, fun hh34 => ?_⟩
                            · simp only [decide_eq_true_eq, decide_eq_false_iff_not] at hh34
                              conv => whnf
                              refine .same ?_
                              conv => whnf
                              (refine bool_e (nm_bad hx.2.2 hb ?_).symm; rw [dec_eq s x.1.2 hb]; simp (disch := omega) only [w64, Int.toNat_natCast, tn1, tn2, tn3, Int.reduceAdd, List.length_cons, List.length_nil, nums_len] at *; rw [if_neg (by omega), if_neg (by omega), if_neg (by omega), if_neg (by omega)])
                            · simp only [decide_eq_true_eq, decide_eq_false_iff_not] at hh34
                              conv => whnf
                              refine ⟨by (simp (disch := omega) only [w64, Int.toNat_natCast, tn1, tn2, tn3, Int.reduceAdd, List.length_cons, List.length_nil, nums_len] at *; omega), ?_⟩
                              conv => whnf
                              refine both_t rfl ?_
                              conv => whnf
                              refine ⟨by (simp (disch := omega) only [w64, Int.toNat_natCast, tn1, tn2, tn3, Int.reduceAdd, List.length_cons, List.length_nil, nums_len] at *; omega), ?_⟩
                              conv => whnf
                              refine ⟨fun hh35 => ?_, fun hh35 => ?_⟩
                              · simp only [decide_eq_true_eq, decide_eq_false_iff_not] at hh35
                                conv => whnf
                                refine .same ?_
                                conv => whnf
                                (refine bool_e (nm_bad hx.2.2 hb ?_).symm; rw [dec_eq s x.1.2 hb]; simp (disch := omega) only [w64, Int.toNat_natCast, tn1, tn2, tn3, Int.reduceAdd, List.length_cons, List.length_nil, nums_len] at *; rw [if_neg (by omega), if_neg (by omega), if_neg (by omega), if_neg (by omega)])
                              · simp only [decide_eq_true_eq, decide_eq_false_iff_not] at hh35
                                conv => whnf
                                refine ⟨by (simp (disch := omega) only [w64, Int.toNat_natCast, tn1, tn2, tn3, Int.reduceAdd, List.length_cons, List.length_nil, nums_len] at *; omega), ?_⟩
                                conv => whnf
                                refine ⟨fun hh36 => ?_, fun hh36 => ?_⟩
                                · simp only [decide_eq_true_eq, decide_eq_false_iff_not] at hh36
                                  conv => whnf
                                  refine .same ?_
                                  conv => whnf
                                  (refine bool_e (nm_bad hx.2.2 hb ?_).symm; rw [dec_eq s x.1.2 hb]; simp (disch := omega) only [w64, Int.toNat_natCast, tn1, tn2, tn3, Int.reduceAdd, List.length_cons, List.length_nil, nums_len] at *; rw [if_neg (by omega), if_neg (by omega), if_neg (by omega), if_neg (by omega)])
                                · simp only [decide_eq_true_eq, decide_eq_false_iff_not] at hh36
                                  conv => whnf
                                  refine ⟨by (simp (disch := omega) only [w64, Int.toNat_natCast, tn1, tn2, tn3, Int.reduceAdd, List.length_cons, List.length_nil, nums_len] at *; omega), ?_⟩
                                  conv => whnf
                                  refine both_f rfl ?_
                                  conv => whnf
                                  refine ⟨fun hh37 => ?_, fun hh37 => ?_⟩
                                  · simp only [decide_eq_true_eq, decide_eq_false_iff_not] at hh37
                                    conv => whnf
                                    refine .same ?_
                                    conv => whnf
                                    (refine bool_e (nm_bad hx.2.2 hb ?_).symm; rw [dec_eq s x.1.2 hb]; simp (disch := omega) only [w64, Int.toNat_natCast, tn1, tn2, tn3, Int.reduceAdd, List.length_cons, List.length_nil, nums_len] at *; rw [if_neg (by omega), if_neg (by omega), if_neg (by omega), if_neg (by omega)])
                                  · simp only [decide_eq_true_eq, decide_eq_false_iff_not] at hh37
                                    conv => whnf
                                    refine ⟨fun hh38 => ?_, fun hh38 => ?_⟩
                                    · simp only [decide_eq_true_eq, decide_eq_false_iff_not] at hh38
                                      conv => whnf
                                      refine .same ?_
                                      conv => whnf
                                      (refine bool_e (nm_bad hx.2.2 hb ?_).symm; rw [dec_eq s x.1.2 hb]; simp (disch := omega) only [w64, Int.toNat_natCast, tn1, tn2, tn3, Int.reduceAdd, List.length_cons, List.length_nil, nums_len] at *; rw [if_neg (by omega), if_neg (by omega), if_neg (by omega), if_neg (by omega)])
                                    · simp only [decide_eq_true_eq, decide_eq_false_iff_not] at hh38
                                      conv => whnf
                                      refine ⟨fun hh39 => ?_, fun hh39 => ?_⟩
                                      · simp only [decide_eq_true_eq, decide_eq_false_iff_not] at hh39
                                        conv => whnf
                                        refine ⟨fun hh40 => ?_, fun hh40 => ?_⟩
                                        · simp only [decide_eq_true_eq, decide_eq_false_iff_not] at hh40
                                          conv => whnf
                                          refine .same ?_
                                          conv => whnf
                                          (refine bool_e (nm_bad hx.2.2 hb ?_).symm; rw [dec_eq s x.1.2 hb]; simp (disch := omega) only [w64, Int.toNat_natCast, tn1, tn2, tn3, Int.reduceAdd, List.length_cons, List.length_nil, nums_len] at *; rw [if_neg (by omega), if_neg (by omega), if_neg (by omega), if_neg (by omega)])
                                        · simp only [decide_eq_true_eq, decide_eq_false_iff_not] at hh40
                                          conv => whnf
                                          refine ⟨by (simp (disch := omega) only [w64, Int.toNat_natCast, tn1, tn2, tn3, Int.reduceAdd, List.length_cons, List.length_nil, nums_len] at *; omega), ?_⟩
                                          conv => whnf
                                          (have hd := dec_eq s x.1.2 hb; simp (disch := omega) only [w64, Int.toNat_natCast, tn1, tn2, tn3, Int.reduceAdd, List.length_cons, List.length_nil, nums_len] at *; (first | rw [if_pos (by omega)] at hd | rw [if_neg (by omega), if_pos (by omega)] at hd | rw [if_neg (by omega), if_neg (by omega), if_pos (by omega)] at hd | rw [if_neg (by omega), if_neg (by omega), if_neg (by omega), if_pos (by omega)] at hd); have e1 := congrArg Prod.fst hd; have e2 := congrArg Prod.snd hd; simp only at e1 e2; refine ⟨⟨(x.1.1 ++ [((Utf8.decode (bA s) x.1.2).1 : Int)], x.1.2 + (Utf8.decode (bA s) x.1.2).2), nm_next hx hb (by omega)⟩, by show s.length - (x.1.2 + (Utf8.decode (bA s) x.1.2).2) < s.length - x.1.2; omega, .of [some 2] (by rfl) ?_⟩)
                                          conv => whnf
                                          refine ⟨by rfl, ?_⟩
                                          conv => whnf
                                          refine ⟨by simp; omega, ?_⟩
                                          conv => whnf
                                          refine ⟨by (exact (congrArg (fun z => nums x.1.1 ++ [[SV.int .i64 z]]) (by omega)).trans (nums_snoc _ _).symm), ?_⟩
                                          conv => whnf
                                          exact trivial
                                      · simp only [decide_eq_true_eq, decide_eq_false_iff_not] at hh39
                                        conv => whnf
                                        refine ⟨by omega, ?_⟩
                                        conv => whnf
                                        (have hd := dec_eq s x.1.2 hb; simp (disch := omega) only [w64, Int.toNat_natCast, tn1, tn2, tn3, Int.reduceAdd, List.length_cons, List.length_nil, nums_len] at *; (first | rw [if_pos (by omega)] at hd | rw [if_neg (by omega), if_pos (by omega)] at hd | rw [if_neg (by omega), if_neg (by omega), if_pos (by omega)] at hd | rw [if_neg (by omega), if_neg (by omega), if_neg (by omega), if_pos (by omega)] at hd); have e1 := congrArg Prod.fst hd; have e2 := congrArg Prod.snd hd; simp only at e1 e2; refine ⟨⟨(x.1.1 ++ [((Utf8.decode (bA s) x.1.2).1 : Int)], x.1.2 + (Utf8.decode (bA s) x.1.2).2), nm_next hx hb (by omega)⟩, by show s.length - (x.1.2 + (Utf8.decode (bA s) x.1.2).2) < s.length - x.1.2; omega, .of [some 2] (by rfl) ?_⟩)
                                        conv => whnf
                                        refine ⟨by rfl, ?_⟩
                                        conv => whnf
                                        refine ⟨by omega, ?_⟩
                                        conv => whnf
                                        refine ⟨by omega, ?_⟩
                                        conv => whnf
                                        exact trivial
                  · simp only [decide_eq_true_eq, decide_eq_false_iff_not] at hh29
                    conv => whnf
                    refine .same ?_
                    conv => whnf
                    (refine bool_e (nm_bad hx.2.2 hb ?_).symm; rw [dec_eq s x.1.2 hb]; simp (disch := omega) only [w64, Int.toNat_natCast, tn1, tn2, tn3, Int.reduceAdd, List.length_cons, List.length_nil, nums_len] at *; rw [if_neg (by omega), if_neg (by omega), if_neg (by omega), if_neg (by omega)])
                · simp only [decide_eq_true_eq, decide_eq_false_iff_not] at hh28
                  conv => whnf
                  refine .same ?_
                  conv => whnf
                  (refine bool_e (nm_bad hx.2.2 hb ?_).symm; rw [dec_eq s x.1.2 hb]; simp (disch := omega) only [w64, Int.toNat_natCast, tn1, tn2, tn3, Int.reduceAdd, List.length_cons, List.length_nil, nums_len] at *; rw [if_neg (by omega), if_neg (by omega), if_neg (by omega), if_neg (by omega)])
            · simp only [decide_eq_true_eq, decide_eq_false_iff_not] at hh15
              conv => whnf
              refine ⟨by omega, ?_⟩
              conv => whnf
              refine both_t (by simp; omega) ?_
              conv => whnf
              refine ⟨by omega, ?_⟩
              conv => whnf
              refine both_t (by simp; omega) ?_
              conv => whnf
              refine both_t (by simp; omega) ?_
              conv => whnf
              refine .same ?_
              conv => whnf
              (refine bool_e (nm_bad hx.2.2 hb ?_).symm; rw [dec_eq s x.1.2 hb]; simp (disch := omega) only [w64, Int.toNat_natCast, tn1, tn2, tn3, Int.reduceAdd, List.length_cons, List.length_nil, nums_len] at *; rw [if_neg (by omega), if_neg (by omega), if_neg (by omega), if_neg (by omega)])
        · simp only [decide_eq_true_eq, decide_eq_false_iff_not] at hh6
          conv => whnf
          refine ⟨by omega, ?_⟩
          conv => whnf
          refine ⟨fun hh43 => ?_, fun hh43 => ?_⟩
          · simp only [decide_eq_true_eq, decide_eq_false_iff_not] at hh43
            conv => whnf
            refine ⟨by omega, ?_⟩
            conv => whnf
            refine both_t (by simp; omega) ?_
            conv => whnf
            refine both_t (by simp; omega) ?_
            conv => whnf
            refine .same ?_
            conv => whnf
            (refine bool_e (nm_bad hx.2.2 hb ?_).symm; rw [dec_eq s x.1.2 hb]; simp (disch := omega) only [w64, Int.toNat_natCast, tn1, tn2, tn3, Int.reduceAdd, List.length_cons, List.length_nil, nums_len] at *; rw [if_neg (by omega), if_neg (by omega), if_neg (by omega), if_neg (by omega)])
          · simp only [decide_eq_true_eq, decide_eq_false_iff_not] at hh43
            conv => whnf
            refine ⟨by omega, ?_⟩
            conv => whnf
            refine ⟨fun hh44 => ?_, fun hh44 => ?_⟩
            · simp only [decide_eq_true_eq, decide_eq_false_iff_not] at hh44
              conv => whnf
              refine ⟨by omega, ?_⟩
              conv => whnf
              refine both_t (by simp; omega) ?_
              conv => whnf
              refine both_t (by simp; omega) ?_
              conv => whnf
              refine .same ?_
              conv => whnf
              (refine bool_e (nm_bad hx.2.2 hb ?_).symm; rw [dec_eq s x.1.2 hb]; simp (disch := omega) only [w64, Int.toNat_natCast, tn1, tn2, tn3, Int.reduceAdd, List.length_cons, List.length_nil, nums_len] at *; rw [if_neg (by omega), if_neg (by omega), if_neg (by omega), if_neg (by omega)])
            · simp only [decide_eq_true_eq, decide_eq_false_iff_not] at hh44
              conv => whnf
              refine .same ?_
              conv => whnf
              (refine bool_e (nm_bad hx.2.2 hb ?_).symm; rw [dec_eq s x.1.2 hb]; simp (disch := omega) only [w64, Int.toNat_natCast, tn1, tn2, tn3, Int.reduceAdd, List.length_cons, List.length_nil, nums_len] at *; rw [if_neg (by omega), if_neg (by omega), if_neg (by omega), if_neg (by omega)])
    · have hb : s.length ≤ x.1.2 := by simp only [decide_eq_false_iff_not] at hb; omega
      have ht : nmF (bA s) 0 = x.1.1.all letR := hx.2.2.trans (Eq.trans (congrArg (fun b => x.1.1.all letR && b) (nmF_end (by rw [bA_size]; exact hb))) (Bool.and_true _))
      conv => whnf
      refine .same ?_
      conv => whnf
      refine ⟨fun hh0 => ?_, fun hh0 => ?_⟩
      · simp only [decide_eq_true_eq, decide_eq_false_iff_not] at hh0
        conv => whnf
        refine bool_e (Eq.symm ?_)
        unfold nameOk
        rw [decide_eq_false (by omega), Bool.and_false]
      · simp only [decide_eq_true_eq, decide_eq_false_iff_not] at hh0
        conv => whnf
        refine ⟨fun hh1 => ?_, fun hh1 => ?_⟩
        · simp only [decide_eq_true_eq, decide_eq_false_iff_not] at hh1
          conv => whnf
          refine bool_e (Eq.symm ?_)
          unfold nameOk
          rw [decide_eq_false (by omega), Bool.and_false]
        · simp only [decide_eq_true_eq, decide_eq_false_iff_not] at hh1
          conv => whnf
          refine LoopG.inv tab_ok 45 (fun y : { y : List Int × Nat // y.2 ≤ x.1.1.length ∧ y.1.length = x.1.1.length ∧ y.1.drop y.2 = x.1.1.drop y.2 ∧ (x.1.1.take y.2).all letR = true } => [(4, .sl 0), (6, .int .i64 (y.1.2 : Int))])
            (fun y => [.row 3 1 (nums y.1.1)]) (fun y => x.1.1.length - y.1.2) ⟨(x.1.1, 0), by simp, rfl, rfl, rfl⟩ (.of [some 0] (by rfl) ?_) ?_
          · conv => whnf
            refine ⟨by rfl, ?_⟩
            conv => whnf
            refine ⟨by rfl, ?_⟩
            conv => whnf
            exact trivial
          · intro y
            have hy := y.2
            conv => whnf
            refine ⟨fun hc => ?_, fun hc => ?_⟩
            · have hc : y.1.2 < y.1.1.length := by simp only [decide_eq_true_eq, nums_len] at hc; omega
              have hg : y.1.1.getD y.1.2 0 = x.1.1.getD y.1.2 0 := by
                have := congrArg (fun l => l.getD 0 0) hy.2.2.1
                simpa [List.getD, List.getElem?_drop] using this
              conv => whnf
              refine ⟨by (rw [nums_len]; omega), ?_⟩
              conv => whnf
              (refine ⟨_, og_get hc, ?_⟩)
              conv => whnf
              refine (rletter_s _).call ?_
              rintro _ rfl
              conv => whnf
              refine ⟨fun hh11 => ?_, fun hh11 => ?_⟩
              · simp only [decide_eq_true_eq, decide_eq_false_iff_not, Bool.not_eq_true, Bool.not_eq_false, Bool.not_eq_true', Bool.not_eq_false', Bool.and_eq_true, Bool.and_eq_false_iff, Int.not_lt, Int.not_le, Decidable.not_not, beq_iff_eq, Bool.not_eq_eq_eq_not, Bool.not_true, Bool.not_false, beq_eq_false_iff_ne, ne_eq, decide_eq_decide] at hh11
                conv => whnf
                refine .same ?_
                conv => whnf
                (refine bool_e (Eq.symm ?_); have hq := all_bad (l := x.1.1) (i := y.1.2) (by omega) (by rw [← hg]; exact ‹letR (y.1.1.getD y.1.2 0) = false›); unfold nameOk; rw [ht, hq]; rfl)
              · simp only [decide_eq_true_eq, decide_eq_false_iff_not, Bool.not_eq_true, Bool.not_eq_false, Bool.not_eq_true', Bool.not_eq_false', Bool.and_eq_true, Bool.and_eq_false_iff, Int.not_lt, Int.not_le, Decidable.not_not, beq_iff_eq, Bool.not_eq_eq_eq_not, Bool.not_true, Bool.not_false, beq_eq_false_iff_ne, ne_eq, decide_eq_decide] at hh11
                conv => whnf
                refine ⟨by (rw [nums_len]; omega), ?_⟩
                conv => whnf
                (refine ⟨_, og_get hc, ?_⟩)
                conv => whnf
                refine (rfold_s _).call ?_
                rintro _ ⟨u13, rfl⟩
                conv => whnf
                refine ⟨by (rw [nums_len]; omega), ?_⟩
                conv => whnf
                (refine ⟨_, og_get hc, ?_⟩)
                conv => whnf
                (refine ⟨⟨(y.1.1.set y.1.2 u13, y.1.2 + 1), fold_next hy hc (by rw [← hg]; exact ‹letR (y.1.1.getD y.1.2 0) = true›)⟩, by show x.1.1.length - (y.1.2 + 1) < x.1.1.length - y.1.2; omega, .of [some 0] (by rfl) ?_⟩)
                conv => whnf
                refine ⟨by exact (w64 _ (by omega) (by omega)).trans (by simp), ?_⟩
                conv => whnf
                refine ⟨by (exact (nums_set _ _ _)), ?_⟩
                conv => whnf
                exact trivial
            · have hc : x.1.1.length ≤ y.1.2 := by simp only [decide_eq_false_iff_not, nums_len] at hc; omega
              have ha : x.1.1.all letR = true := by rw [← hy.2.2.2, List.take_of_length_le hc]
              conv => whnf
              refine .same ?_
              conv => whnf
              (refine bool_e (Eq.symm ?_); unfold nameOk; rw [decide_eq_true (by omega), ht, ha]; rfl)
end Go.Proofs.Ytdommpfnoiemkaa

/- Chapter 8: headers of records. -/
import Derived.Test.YtdommpfnoiemkaaPktF
import Derived.Test.YtdommpfnoiemkaaDrawX
namespace Go.Proofs.Ytdommpfnoiemkaa
open Go.Sx
set_option linter.unusedSimpArgs false
set_option linter.unusedVariables false
def numB (s : List UInt8) (i : Nat) : Int := 256 * byt s i + byt s (i + 1)
def hd0 : Hd := ⟨[], 0, 0, 0, 0⟩
def prsH (s : List UInt8) : Hd := ⟨(s.take (s.length - 2)).drop 10, byt s 2, numB s 3, numB s 5, numB s 7⟩
def prsR (s : List UInt8) : Hd × Int :=
  if s.length < 12 then (hd0, 9) else if ¬ s.take 2 = [165, 1] then (hd0, 11) else if (s.length : Int) < 12 + byt s 9 then (hd0, 9) else if 12 + byt s 9 < (s.length : Int) then (hd0, 11)
  else if ¬ numB s (s.length - 2) = ckV (s.take (s.length - 2)) then (hd0, 10) else if hdOk (prsH s) = true then (prsH s, 0) else (hd0, 1)
abbrev prsV (s : List UInt8) : SV := .tup [hdE (prsR s).1, .int .i64 (prsR s).2]
theorem bv64 (x : Nat) (h : x < 18446744073709551616) : (BitVec.ofInt IntKind.i64.bits (x : Int)).toNat = x := by
  rw [BitVec.toNat_ofInt]
  show ((x : Int) % 18446744073709551616).toNat = x
  omega
theorem or_b {a b : Int} (a0 : 0 ≤ a) (a1 : a ≤ 255) (b0 : 0 ≤ b) (b1 : b ≤ 255) :
    IntKind.i64.wrap ((BitVec.ofInt IntKind.i64.bits (IntKind.i64.wrap (a * 2 ^ min (Int.toNat 8) IntKind.i64.bits)) ||| BitVec.ofInt IntKind.i64.bits b).toNat : Int) = 256 * a + b := by
  obtain ⟨x, rfl⟩ := Int.eq_ofNat_of_zero_le a0
  obtain ⟨y, rfl⟩ := Int.eq_ofNat_of_zero_le b0
  have e1 : IntKind.i64.wrap ((x : Int) * 2 ^ min (Int.toNat 8) IntKind.i64.bits) = ((x * 256 : Nat) : Int) := by
    rw [show (2 : Int) ^ min (Int.toNat 8) IntKind.i64.bits = 256 from by decide, w64 _ (by omega) (by omega)]; omega
  rw [e1, BitVec.toNat_or, bv64 _ (by omega), bv64 _ (by omega), show x * 256 = x <<< 8 from by rw [Nat.shiftLeft_eq], ← Nat.shiftLeft_add_eq_or_of_lt (show y < 2 ^ 8 by omega), Nat.shiftLeft_eq, w64 _ (by omega) (by omega)]
  omega
theorem num_s (s : List UInt8) (z : Int) (h0 : 0 ≤ z) (hi : z + 1 < (s.length : Int)) (hs : s.length ≤ 1000000) : PSpec Try.prog 103 [.str s, .int .i64 z] (· = .int .i64 (numB s z.toNat)) := by
  obtain ⟨i, rfl⟩ := Int.eq_ofNat_of_zero_le h0
  rw [Int.toNat_natCast]
  have hi : i + 1 < s.length := by omega
  refine .of_code' tab_ok Try.func103 (by rfl) rfl trivial ?_
  have b0 := byt_rng s i
  have b1 := byt_rng s (i + 1)
  have w1 : IntKind.i64.wrap ((i : Int) + 1) = ((i + 1 : Nat) : Int) := by rw [w64 _ (by omega) (by omega)]; rfl
  have e : IntKind.i64.wrap (IntKind.i64.wrap (256 * IntKind.i64.wrap (byt s i)) + IntKind.i64.wrap (byt s (i + 1))) = numB s i := by
    rw [w64 (byt s i) (by omega) (by omega), w64 (byt s (i + 1)) (by omega) (by omega), w64 (256 * _) (by omega) (by omega), w64 _ (by omega) (by omega)]; rfl
  conv => whnf
  refine DrawG.of mixed tab_ok ?_
  conv => whnf
  refine ⟨by omega, ?_⟩
  conv => whnf
  refine ⟨by omega, ?_⟩
  conv => whnf
  refine ⟨by kernel_rfl, ?_⟩
  conv => whnf
  (rw [w1]; exact int_e e)
theorem cl_s (s : List UInt8) (z : Int) (h0 : 0 ≤ z) (hi : z + 1 < (s.length : Int)) (hs : s.length ≤ 1000000) : OSpec Try.prog 65 [.int .i64 z, .ptr 0 0] [.fix 9 [.str s]] fun v ho => v = .int .i64 (numB s z.toNat) ∧ ho = [.fix 9 [.str s]] := by
  obtain ⟨i, rfl⟩ := Int.eq_ofNat_of_zero_le h0
  rw [Int.toNat_natCast]
  have hi : i + 1 < s.length := by omega
  refine .of_code tab_ok Try.func65 (by rfl) rfl trivial ?_
  have b0 := byt_rng s i
  have b1 := byt_rng s (i + 1)
  have w1 : IntKind.i64.wrap ((i : Int) + 1) = ((i + 1 : Nat) : Int) := by rw [w64 _ (by omega) (by omega)]; rfl
  conv => whnf
  refine DrawG.of mixed tab_ok ?_
  conv => whnf
  refine ⟨by omega, ?_⟩
  conv => whnf
  refine ⟨by omega, ?_⟩
  conv => whnf
  refine ⟨by omega, ?_⟩
  conv => whnf
  refine ⟨by kernel_rfl, ?_⟩
  conv => whnf
  refine ⟨by (rw [w1]; refine int_e ?_; exact (by rw [w64 (byt s i) (by omega) (by omega), w64 (byt s (i + 1)) (by omega) (by omega)]; exact or_b (by omega) (by omega) (by omega) (by omega) : IntKind.i64.wrap ((BitVec.ofInt IntKind.i64.bits (IntKind.i64.wrap (IntKind.i64.wrap (byt s i) * 2 ^ min (Int.toNat 8) IntKind.i64.bits)) ||| BitVec.ofInt IntKind.i64.bits (IntKind.i64.wrap (byt s (i + 1)))).toNat : Int) = numB s i)), ?_⟩
  conv => whnf
theorem rvalidh2_s (st : List UInt8) (c p l f : Int) (hs : st.length ≤ 1000) : PSpec Try.prog 60 [.agg [.str st, .int .i64 c, .int .i64 p, .int .i64 l, .int .i64 f]] (· = .bool (hdOk ⟨st, c, p, l, f⟩)) := rvalidh_s ⟨st, c, p, l, f⟩ hs
theorem pvalid2_s (st : List UInt8) (c p l f : Int) : PSpec Try.prog 59 [.agg [.str st, .int .i64 c, .int .i64 p, .int .i64 l, .int .i64 f]] (· = .bool (hdOk ⟨st, c, p, l, f⟩)) := pvalid_s ⟨st, c, p, l, f⟩
theorem prs_a {s : List UInt8} (h : s.length < 12) : prsR s = (hd0, 9) := by unfold prsR; rw [if_pos h]
theorem prs_b {s : List UInt8} (h : 12 ≤ s.length) (h1 : ¬ s.take 2 = [165, 1]) : prsR s = (hd0, 11) := by unfold prsR; rw [if_neg (by omega), if_pos h1]
theorem prs_c {s : List UInt8} (h : 12 ≤ s.length) (h1 : s.take 2 = [165, 1]) (h2 : (s.length : Int) < 12 + byt s 9) : prsR s = (hd0, 9) := by unfold prsR; rw [if_neg (by omega), if_neg (not_not_intro h1), if_pos h2]
theorem prs_d {s : List UInt8} (h : 12 ≤ s.length) (h1 : s.take 2 = [165, 1]) (h2 : 12 + byt s 9 < (s.length : Int)) : prsR s = (hd0, 11) := by unfold prsR; rw [if_neg (by omega), if_neg (not_not_intro h1), if_neg (by omega), if_pos h2]
theorem prs_e {s : List UInt8} (h : 12 ≤ s.length) (h1 : s.take 2 = [165, 1]) (h2 : 12 + byt s 9 = (s.length : Int)) (h3 : ¬ numB s (s.length - 2) = ckV (s.take (s.length - 2))) : prsR s = (hd0, 10) := by
  unfold prsR; rw [if_neg (by omega), if_neg (not_not_intro h1), if_neg (by omega), if_neg (by omega), if_pos h3]
theorem prs_f {s : List UInt8} (h : 12 ≤ s.length) (h1 : s.take 2 = [165, 1]) (h2 : 12 + byt s 9 = (s.length : Int)) (h3 : numB s (s.length - 2) = ckV (s.take (s.length - 2))) (h4 : hdOk (prsH s) = false) : prsR s = (hd0, 1) := by
  unfold prsR; rw [if_neg (by omega), if_neg (not_not_intro h1), if_neg (by omega), if_neg (by omega), if_neg (not_not_intro h3), if_neg (by rw [h4]; simp)]
theorem prs_g {s : List UInt8} (h : 12 ≤ s.length) (h1 : s.take 2 = [165, 1]) (h2 : 12 + byt s 9 = (s.length : Int)) (h3 : numB s (s.length - 2) = ckV (s.take (s.length - 2))) (h4 : hdOk (prsH s) = true) : prsR s = (prsH s, 0) := by
  unfold prsR; rw [if_neg (by omega), if_neg (not_not_intro h1), if_neg (by omega), if_neg (by omega), if_neg (not_not_intro h3), if_pos h4]
theorem pv {s : List UInt8} {a : Hd} {b : Int} (h : prsR s = (a, b)) : SV.tup [hdE a, .int .i64 b] = prsV s := by rw [prsV, h]
theorem rparse_s (s : List UInt8) (hs : s.length ≤ 900) : PSpec Try.prog 63 [.str s] (· = prsV s) := by
  refine .of_code' tab_ok Try.func63 (by rfl) rfl trivial ?_
  have b9 := byt_rng s 9
  have b2 := byt_rng s 2
  have w2 : IntKind.i64.wrap ((s.getD (Int.toNat 2) 0).toNat : Int) = byt s 2 := (w64 (byt s 2) (by omega) (by omega) : IntKind.i64.wrap (byt s 2) = byt s 2)
  have w9 : IntKind.i64.wrap (12 + IntKind.i64.wrap (byt s 9)) = 12 + byt s 9 := by rw [w64 (byt s 9) (by omega) (by omega), w64 _ (by omega) (by omega)]
  conv => whnf
  refine ⟨fun hh0 => ?_, fun hh0 => ?_⟩
  · have hh0 : s.length < 12 := by simp only [decide_eq_true_eq] at hh0; omega
    conv => whnf
    exact pv (prs_a hh0)
  · have hh0 : 12 ≤ s.length := by simp only [decide_eq_false_iff_not] at hh0; omega
    conv => whnf
    refine ⟨by omega, ?_⟩
    conv => whnf
    refine ⟨fun hh1 => ?_, fun hh1 => ?_⟩
    · have hh1 : ¬ s.take 2 = [165, 1] := by simpa using hh1
      conv => whnf
      exact pv (prs_b hh0 hh1)
    · have hh1 : s.take 2 = [165, 1] := by simpa using hh1
      conv => whnf
      refine ⟨by omega, ?_⟩
      conv => whnf
      refine ⟨fun hh2 => ?_, fun hh2 => ?_⟩
      · have hh2 : (s.length : Int) < 12 + byt s 9 := by rw [decide_eq_true_eq] at hh2; exact w9 ▸ hh2
        conv => whnf
        exact pv (prs_c hh0 hh1 hh2)
      · have hh2 : ¬ (s.length : Int) < 12 + byt s 9 := by rw [decide_eq_false_iff_not] at hh2; exact w9 ▸ hh2
        conv => whnf
        refine ⟨fun hh3 => ?_, fun hh3 => ?_⟩
        · have hh3 : 12 + byt s 9 < (s.length : Int) := by rw [decide_eq_true_eq] at hh3; exact w9 ▸ hh3
          conv => whnf
          exact pv (prs_d hh0 hh1 hh3)
        · have hh3 : ¬ 12 + byt s 9 < (s.length : Int) := by rw [decide_eq_false_iff_not] at hh3; exact w9 ▸ hh3
          have hh4 : 12 + byt s 9 = (s.length : Int) := by omega
          have en : IntKind.i64.wrap ((s.length : Int) - 2) = ((s.length - 2 : Nat) : Int) := by rw [w64 _ (by omega) (by omega)]; omega
          have em : IntKind.i64.wrap (IntKind.i64.wrap (12 + IntKind.i64.wrap ((s.getD (Int.toNat 9) 0).toNat : Int)) - 2) = ((s.length - 2 : Nat) : Int) := (congrArg (fun z => IntKind.i64.wrap (z - 2)) w9).trans (by rw [hh4, en])
          have eb : (s.take (s.length - 2)).drop (Int.toNat 0) = s.take (s.length - 2) := rfl
          conv => whnf
          refine DrawG.of mixed tab_ok ?_
          conv => whnf
          refine (num_s _ _ (by first | omega | (simp only [em]; omega) | (simp only [en]; omega) | (simp only [List.length_drop, List.length_take]; omega) | assumption | decide | simp) (by first | omega | (simp only [em]; omega) | (simp only [en]; omega) | (simp only [List.length_drop, List.length_take]; omega) | assumption | decide | simp) (by first | omega | (simp only [em]; omega) | (simp only [en]; omega) | (simp only [List.length_drop, List.length_take]; omega) | assumption | decide | simp)).calld ?_
          conv => whnf
          refine ⟨by omega, ?_⟩
          conv => whnf
          refine (rcsum_s _ (by first | omega | (simp only [em]; omega) | (simp only [en]; omega) | (simp only [List.length_drop, List.length_take]; omega) | assumption | decide | simp)).calld ?_
          conv => whnf
          refine ⟨by kernel_rfl, ?_⟩
          conv => whnf
          refine ⟨fun hh20 => ?_, fun hh20 => ?_⟩
          · simp only [decide_eq_true_eq, decide_eq_false_iff_not] at hh20
            conv => whnf
            (simp only [em, en, Int.toNat_natCast] at *; exact pv (prs_e hh0 hh1 hh4 ‹_›))
          · simp only [decide_eq_true_eq, decide_eq_false_iff_not] at hh20
            conv => whnf
            refine DrawG.of mixed tab_ok ?_
            conv => whnf
            refine ⟨by omega, ?_⟩
            conv => whnf
            refine (num_s _ _ (by first | omega | (simp only [em]; omega) | (simp only [en]; omega) | (simp only [List.length_drop, List.length_take]; omega) | assumption | decide | simp) (by first | omega | (simp only [em]; omega) | (simp only [en]; omega) | (simp only [List.length_drop, List.length_take]; omega) | assumption | decide | simp) (by first | omega | (simp only [em]; omega) | (simp only [en]; omega) | (simp only [List.length_drop, List.length_take]; omega) | assumption | decide | simp)).calld ?_
            conv => whnf
            refine (num_s _ _ (by first | omega | (simp only [em]; omega) | (simp only [en]; omega) | (simp only [List.length_drop, List.length_take]; omega) | assumption | decide | simp) (by first | omega | (simp only [em]; omega) | (simp only [en]; omega) | (simp only [List.length_drop, List.length_take]; omega) | assumption | decide | simp) (by first | omega | (simp only [em]; omega) | (simp only [en]; omega) | (simp only [List.length_drop, List.length_take]; omega) | assumption | decide | simp)).calld ?_
            conv => whnf
            refine (num_s _ _ (by first | omega | (simp only [em]; omega) | (simp only [en]; omega) | (simp only [List.length_drop, List.length_take]; omega) | assumption | decide | simp) (by first | omega | (simp only [em]; omega) | (simp only [en]; omega) | (simp only [List.length_drop, List.length_take]; omega) | assumption | decide | simp) (by first | omega | (simp only [em]; omega) | (simp only [en]; omega) | (simp only [List.length_drop, List.length_take]; omega) | assumption | decide | simp)).calld ?_
            conv => whnf
            refine ⟨by omega, ?_⟩
            conv => whnf
            refine ⟨by kernel_rfl, ?_⟩
            conv => whnf
            refine (rvalidh2_s _ _ _ _ _ (by first | omega | (simp only [em]; omega) | (simp only [en]; omega) | (simp only [List.length_drop, List.length_take]; omega) | assumption | decide | simp)).call ?_
            rintro _ rfl
            conv => whnf
            refine ⟨fun hh61 => ?_, fun hh61 => ?_⟩
            · simp only [decide_eq_true_eq, decide_eq_false_iff_not, Bool.not_eq_true, Bool.not_eq_false, Bool.not_eq_true', Bool.not_eq_false', Bool.and_eq_true, Bool.and_eq_false_iff, Int.not_lt, Int.not_le, Decidable.not_not, beq_iff_eq, Bool.not_eq_eq_eq_not, Bool.not_true, Bool.not_false, beq_eq_false_iff_ne, ne_eq, decide_eq_decide] at hh61
              conv => whnf
              (simp only [em, en, w2, Int.toNat_natCast] at *; exact pv (prs_f hh0 hh1 hh4 (Decidable.not_not.1 hh20) hh61))
            · simp only [decide_eq_true_eq, decide_eq_false_iff_not, Bool.not_eq_true, Bool.not_eq_false, Bool.not_eq_true', Bool.not_eq_false', Bool.and_eq_true, Bool.and_eq_false_iff, Int.not_lt, Int.not_le, Decidable.not_not, beq_iff_eq, Bool.not_eq_eq_eq_not, Bool.not_true, Bool.not_false, beq_eq_false_iff_ne, ne_eq, decide_eq_decide] at hh61
              conv => whnf
              (simp only [em, en, w2, Int.toNat_natCast] at *; exact pv (prs_g hh0 hh1 hh4 (Decidable.not_not.1 hh20) hh61))
theorem parse_s (s : List UInt8) (hs : s.length ≤ 9223372036854775807) : PSpec Try.prog 24 [.str s] (· = prsV s) := by
  refine .of_code' tab_ok Try.func24 (by rfl) rfl trivial ?_
  have b9 := byt_rng s 9
  have b2 := byt_rng s 2
  have w2 : IntKind.i64.wrap ((s.getD (Int.toNat 2) 0).toNat : Int) = byt s 2 := (w64 (byt s 2) (by omega) (by omega) : IntKind.i64.wrap (byt s 2) = byt s 2)
  have w9 : IntKind.i64.wrap (12 + IntKind.i64.wrap (byt s 9)) = 12 + byt s 9 := by rw [w64 (byt s 9) (by omega) (by omega), w64 _ (by omega) (by omega)]
  conv => whnf
  refine ⟨fun hh0 => ?_, fun hh0 => ?_⟩
  · have hh0 : s.length < 12 := by simp only [decide_eq_true_eq] at hh0; omega
    conv => whnf
    exact pv (prs_a hh0)
  · have hh0 : 12 ≤ s.length := by simp only [decide_eq_false_iff_not] at hh0; omega
    conv => whnf
    refine ⟨by omega, ?_⟩
    conv => whnf
    refine ⟨by omega, ?_⟩
    conv => whnf
    refine ⟨fun hh1 => ?_, fun hh1 => ?_⟩
    · have hh1 : ¬ s.take 2 = [165, 1] := by simpa using hh1
      conv => whnf
      exact pv (prs_b hh0 hh1)
    · have hh1 : s.take 2 = [165, 1] := by simpa using hh1
      conv => whnf
      refine ⟨fun hh2 => ?_, fun hh2 => ?_⟩
      · have hh2 : (s.length : Int) < 12 + byt s 9 := by rw [decide_eq_true_eq] at hh2; exact w9 ▸ hh2
        conv => whnf
        exact pv (prs_c hh0 hh1 hh2)
      · have hh2 : ¬ (s.length : Int) < 12 + byt s 9 := by rw [decide_eq_false_iff_not] at hh2; exact w9 ▸ hh2
        conv => whnf
        refine ⟨fun hh3 => ?_, fun hh3 => ?_⟩
        · have hh3 : 12 + byt s 9 < (s.length : Int) := by rw [decide_eq_true_eq] at hh3; exact w9 ▸ hh3
          conv => whnf
          exact pv (prs_d hh0 hh1 hh3)
        · have hh3 : ¬ 12 + byt s 9 < (s.length : Int) := by rw [decide_eq_false_iff_not] at hh3; exact w9 ▸ hh3
          have hh4 : 12 + byt s 9 = (s.length : Int) := by omega
          have en : IntKind.i64.wrap ((s.length : Int) - 2) = ((s.length - 2 : Nat) : Int) := by rw [w64 _ (by omega) (by omega)]; omega
          have em : IntKind.i64.wrap (IntKind.i64.wrap (12 + IntKind.i64.wrap ((s.getD (Int.toNat 9) 0).toNat : Int)) - 2) = ((s.length - 2 : Nat) : Int) := (congrArg (fun z => IntKind.i64.wrap (z - 2)) w9).trans (by rw [hh4, en])
          have eb : (s.take (s.length - 2)).drop (Int.toNat 0) = s.take (s.length - 2) := rfl
          conv => whnf
          refine DrawG.of mixed tab_ok ?_
          conv => whnf
          refine (cl_s _ _ (by first | omega | (simp only [em]; omega) | (simp only [en]; omega) | (simp only [List.length_drop, List.length_take]; omega) | assumption | decide | simp) (by first | omega | (simp only [em]; omega) | (simp only [en]; omega) | (simp only [List.length_drop, List.length_take]; omega) | assumption | decide | simp) (by first | omega | (simp only [em]; omega) | (simp only [en]; omega) | (simp only [List.length_drop, List.length_take]; omega) | assumption | decide | simp)).calldR [0] (by decide) (And.intro rfl trivial) (And.intro rfl trivial) ?_
          conv => whnf
          refine ⟨by omega, ?_⟩
          conv => whnf
          refine (csum_s _ (by first | omega | (simp only [em]; omega) | (simp only [en]; omega) | (simp only [List.length_drop, List.length_take]; omega) | assumption | decide | simp)).calld ?_
          conv => whnf
          refine ⟨by kernel_rfl, ?_⟩
          conv => whnf
          refine ⟨fun hh20 => ?_, fun hh20 => ?_⟩
          · simp only [decide_eq_true_eq, decide_eq_false_iff_not] at hh20
            conv => whnf
            (simp only [em, en, Int.toNat_natCast] at *; exact pv (prs_e hh0 hh1 hh4 ‹_›))
          · simp only [decide_eq_true_eq, decide_eq_false_iff_not] at hh20
            conv => whnf
            refine DrawG.of mixed tab_ok ?_
            conv => whnf
            refine ⟨by omega, ?_⟩
            conv => whnf
            refine ⟨by omega, ?_⟩
            conv => whnf
            refine (cl_s _ _ (by first | omega | (simp only [em]; omega) | (simp only [en]; omega) | (simp only [List.length_drop, List.length_take]; omega) | assumption | decide | simp) (by first | omega | (simp only [em]; omega) | (simp only [en]; omega) | (simp only [List.length_drop, List.length_take]; omega) | assumption | decide | simp) (by first | omega | (simp only [em]; omega) | (simp only [en]; omega) | (simp only [List.length_drop, List.length_take]; omega) | assumption | decide | simp)).calldR [0] (by decide) (And.intro rfl trivial) (And.intro rfl trivial) ?_
            conv => whnf
            refine (cl_s _ _ (by first | omega | (simp only [em]; omega) | (simp only [en]; omega) | (simp only [List.length_drop, List.length_take]; omega) | assumption | decide | simp) (by first | omega | (simp only [em]; omega) | (simp only [en]; omega) | (simp only [List.length_drop, List.length_take]; omega) | assumption | decide | simp) (by first | omega | (simp only [em]; omega) | (simp only [en]; omega) | (simp only [List.length_drop, List.length_take]; omega) | assumption | decide | simp)).calldR [0] (by decide) (And.intro rfl trivial) (And.intro rfl trivial) ?_
            conv => whnf
            refine (cl_s _ _ (by first | omega | (simp only [em]; omega) | (simp only [en]; omega) | (simp only [List.length_drop, List.length_take]; omega) | assumption | decide | simp) (by first | omega | (simp only [em]; omega) | (simp only [en]; omega) | (simp only [List.length_drop, List.length_take]; omega) | assumption | decide | simp) (by first | omega | (simp only [em]; omega) | (simp only [en]; omega) | (simp only [List.length_drop, List.length_take]; omega) | assumption | decide | simp)).calldR [0] (by decide) (And.intro rfl trivial) (And.intro rfl trivial) ?_
            conv => whnf
            refine ⟨by kernel_rfl, ?_⟩
            conv => whnf
            refine (pvalid2_s _ _ _ _ _).call ?_
            rintro _ rfl
            conv => whnf
            refine ⟨fun hh61 => ?_, fun hh61 => ?_⟩
            · simp only [decide_eq_true_eq, decide_eq_false_iff_not, Bool.not_eq_true, Bool.not_eq_false, Bool.not_eq_true', Bool.not_eq_false', Bool.and_eq_true, Bool.and_eq_false_iff, Int.not_lt, Int.not_le, Decidable.not_not, beq_iff_eq, Bool.not_eq_eq_eq_not, Bool.not_true, Bool.not_false, beq_eq_false_iff_ne, ne_eq, decide_eq_decide] at hh61
              conv => whnf
              (simp only [em, en, w2, Int.toNat_natCast] at *; exact pv (prs_f hh0 hh1 hh4 (Decidable.not_not.1 hh20) hh61))
            · simp only [decide_eq_true_eq, decide_eq_false_iff_not, Bool.not_eq_true, Bool.not_eq_false, Bool.not_eq_true', Bool.not_eq_false', Bool.and_eq_true, Bool.and_eq_false_iff, Int.not_lt, Int.not_le, Decidable.not_not, beq_iff_eq, Bool.not_eq_eq_eq_not, Bool.not_true, Bool.not_false, beq_eq_false_iff_ne, ne_eq, decide_eq_decide] at hh61
              conv => whnf
              (simp only [em, en, w2, Int.toNat_natCast] at *; exact pv (prs_g hh0 hh1 hh4 (Decidable.not_not.1 hh20) hh61))
end Go.Proofs.Ytdommpfnoiemkaa

/- Contracts of the division of 128 bits, of the program's and the reference's. No statement of the seat is proved here. -/
import Derived.Test.YthlomoacacebeabDiv64
import Derived.Test.YthlomoacacebeabWide
namespace Go.Proofs.Ythlomoacacebeab
open Go.Sx
set_option linter.unusedSimpArgs false
set_option linter.unusedVariables false
def dvq (h l d : Int) : Int := if d = 0 then 0 else if d ≤ h then 0 else (h * 18446744073709551616 + l) / d
def dvr (h l d : Int) : Int := if d = 0 then 0 else if d ≤ h then 0 else (h * 18446744073709551616 + l) % d
def dve (h d : Int) : Int := if d = 0 then 3 else if d ≤ h then 2 else 0
theorem wdiv_s (h l d : Int) (h0 : 0 ≤ h) (l0 : 0 ≤ l) (l1 : l < 18446744073709551616) (d0 : 0 ≤ d) (d1 : d < 18446744073709551616) :
    PSpec Try.prog 74 [.agg [.int .u64 h, .int .u64 l], .int .u64 d] (· = .tup [.int .u64 (dvq h l d), .int .u64 (dvr h l d), .int .i64 (dve h d)]) := by
  refine .of_code' tab_ok Try.func74 (by rfl) rfl trivial ?_
  conv => whnf
  refine ⟨fun hh0 => ?_, fun hh0 => ?_⟩
  · simp only [decide_eq_true_eq, decide_eq_false_iff_not] at hh0
    conv => whnf
    simp [dvq, dvr, dve, *]
  · simp only [decide_eq_true_eq, decide_eq_false_iff_not] at hh0
    conv => whnf
    refine ⟨fun hh1 => ?_, fun hh1 => ?_⟩
    · simp only [decide_eq_true_eq, decide_eq_false_iff_not] at hh1
      conv => whnf
      simp [dvq, dvr, dve, *]
    · simp only [decide_eq_true_eq, decide_eq_false_iff_not] at hh1
      conv => whnf
      refine (div64_s _ _ _ (by first | assumption | omega | decide | simp) (by first | assumption | omega | decide | simp) (by first | assumption | omega | decide | simp) (by first | assumption | omega | decide | simp) (by first | assumption | omega | decide | simp)).call ?_
      rintro _ rfl
      conv => whnf
      simp [dvq, dvr, dve, *]
theorem dstep {X Y d b : Int} (hd : 0 < d) (hb0 : 0 ≤ b) (hb1 : b < 2) (h : Y = 2 * X + b) : (2 * (X % d) + b < d → Y % d = 2 * (X % d) + b ∧ Y / d = 2 * (X / d)) ∧ (d ≤ 2 * (X % d) + b → Y % d = 2 * (X % d) + b - d ∧ Y / d = 2 * (X / d) + 1) := by
  have h1 := Int.emod_add_mul_ediv X d
  have h2 := Int.emod_nonneg X (show d ≠ 0 by omega)
  have h3 := Int.emod_lt_of_pos X hd
  generalize X % d = r at *
  generalize X / d = q at *
  refine ⟨fun hlt => ?_, fun hge => ?_⟩
  · have e : Y = (2 * r + b) + d * (2 * q) := by rw [Int.mul_left_comm]; omega
    rw [e, Int.add_mul_ediv_left _ _ (show d ≠ 0 by omega), Int.add_mul_emod_self_left, Int.emod_eq_of_lt (by omega) hlt, Int.ediv_eq_zero_of_lt (by omega) hlt]
    exact ⟨rfl, by omega⟩
  · have e : Y = (2 * r + b - d) + d * (2 * q + 1) := by rw [Int.mul_add, Int.mul_left_comm]; omega
    rw [e, Int.add_mul_ediv_left _ _ (show d ≠ 0 by omega), Int.add_mul_emod_self_left, Int.emod_eq_of_lt (by omega) (by omega), Int.ediv_eq_zero_of_lt (by omega) (by omega)]
    exact ⟨rfl, by omega⟩
theorem rdiv_s (h l d : Int) (h0 : 0 ≤ h) (l0 : 0 ≤ l) (l1 : l < 18446744073709551616) (d0 : 0 ≤ d) (d1 : d < 18446744073709551616) :
    PSpec Try.prog 91 [.agg [.int .u64 h, .int .u64 l], .int .u64 d] (· = .tup [.int .u64 (dvq h l d), .int .u64 (dvr h l d), .int .i64 (dve h d)]) := by
  refine .of_code' tab_ok Try.func91 (by rfl) rfl trivial ?_
  conv => whnf
  refine ⟨fun hh0 => ?_, fun hh0 => ?_⟩
  · simp only [decide_eq_true_eq, decide_eq_false_iff_not] at hh0
    conv => whnf
    simp [dvq, dvr, dve, *]
  · simp only [decide_eq_true_eq, decide_eq_false_iff_not] at hh0
    conv => whnf
    refine ⟨fun hh1 => ?_, fun hh1 => ?_⟩
    · simp only [decide_eq_true_eq, decide_eq_false_iff_not] at hh1
      conv => whnf
      simp [dvq, dvr, dve, *]
    · simp only [decide_eq_true_eq, decide_eq_false_iff_not] at hh1
      conv => whnf
      have hX : ∀ i : Nat, i ≤ 63 → (h * 18446744073709551616 + l) / ((2 ^ (64 - (i + 1)) : Nat) : Int) = 2 * ((h * 18446744073709551616 + l) / ((2 ^ (64 - i) : Nat) : Int)) + (l / ((2 ^ (63 - i) : Nat) : Int)) % 2 := by
        intro i hi
        have e1 : 2 ^ (64 - i) = 2 ^ (63 - i) * 2 := by rw [← Nat.pow_succ, show (63 - i).succ = 64 - i by omega]
        have e2 : 2 ^ (63 - i) * 2 ^ i * 2 = 18446744073709551616 := by rw [← Nat.pow_add, show 63 - i + i = 63 by omega]
        have hp : (0 : Int) < ((2 ^ (63 - i) : Nat) : Int) := Int.natCast_pos.2 (Nat.pow_pos (by decide))
        rw [show 64 - (i + 1) = 63 - i by omega, e1]
        rw [show ((2 ^ (63 - i) * 2 : Nat) : Int) = ((2 ^ (63 - i) : Nat) : Int) * 2 by simp, ← Int.ediv_ediv_of_nonneg (by omega)]
        have e3 : h * 18446744073709551616 + l = l + ((2 ^ (63 - i) : Nat) : Int) * (h * ((2 ^ i * 2 : Nat) : Int)) := by
          rw [← Int.mul_assoc, Int.mul_comm _ h, Int.mul_assoc]
          have : ((2 ^ (63 - i) : Nat) : Int) * ((2 ^ i * 2 : Nat) : Int) = 18446744073709551616 := by rw [← Int.natCast_mul, ← Nat.mul_assoc, e2]; rfl
          rw [this]
          omega
        rw [e3, Int.add_mul_ediv_left _ _ (show ((2 ^ (63 - i) : Nat) : Int) ≠ 0 by omega)]
        have e4 : h * ((2 ^ i * 2 : Nat) : Int) = 2 * (h * ((2 ^ i : Nat) : Int)) := by simp; rw [Int.mul_comm _ 2, Int.mul_left_comm]
        rw [e4]
        omega
      have hX0 : (h * 18446744073709551616 + l) / ((2 ^ (64 - 0) : Nat) : Int) = h := by
        show (h * 18446744073709551616 + l) / 18446744073709551616 = h
        omega
      have hX64 : (h * 18446744073709551616 + l) / ((2 ^ (64 - 64) : Nat) : Int) = h * 18446744073709551616 + l := by
        show (h * 18446744073709551616 + l) / 1 = _
        simp
      have hXq : ∀ i : Nat, i ≤ 64 → 0 ≤ (h * 18446744073709551616 + l) / ((2 ^ (64 - i) : Nat) : Int) / d ∧ (h * 18446744073709551616 + l) / ((2 ^ (64 - i) : Nat) : Int) / d < ((2 ^ i : Nat) : Int) := by
        intro i hi
        have hp : (0 : Int) < ((2 ^ (64 - i) : Nat) : Int) := Int.natCast_pos.2 (Nat.pow_pos (by decide))
        have e : 2 ^ i * 2 ^ (64 - i) = 18446744073709551616 := by rw [← Nat.pow_add, show i + (64 - i) = 64 by omega]
        refine ⟨Int.ediv_nonneg (Int.ediv_nonneg (by omega) (by omega)) (by omega), Int.ediv_lt_of_lt_mul (by omega) (Int.ediv_lt_of_lt_mul hp ?_)⟩
        rw [Int.mul_right_comm, ← Int.natCast_mul, e]
        have : (18446744073709551616 : Nat) * d = 18446744073709551616 * d := rfl
        omega
      generalize hXd : (fun i : Nat => (h * 18446744073709551616 + l) / ((2 ^ (64 - i) : Nat) : Int)) = X
      have hXd' : ∀ i : Nat, (h * 18446744073709551616 + l) / ((2 ^ (64 - i) : Nat) : Int) = X i := fun i => by rw [← hXd]
      simp only [hXd'] at hX hX0 hX64 hXq
      refine LoopG.inv tab_ok 50 (fun i : { i : Nat // i ≤ 64 } => [(1, .int .u64 d), (2, .ptr 0 0), (7, .int .u64 (X i.1 % d)), (8, .int .u64 (X i.1 / d)), (9, .int .i64 (63 - (i.1 : Int)))])
        (fun _ => [.fix 99 [.int .u64 h, .int .u64 l]]) (fun i => 64 - i.1) ⟨0, by decide⟩ (.of [some 0] (by decide) ?_) ?_
      · conv => whnf
        refine ⟨by rfl, ?_⟩
        conv => whnf
        refine ⟨by rw [hX0, Int.emod_eq_of_lt h0 (by omega)], ?_⟩
        conv => whnf
        refine ⟨by rw [hX0, Int.ediv_eq_zero_of_lt h0 (by omega)], ?_⟩
        conv => whnf
        refine ⟨by rfl, ?_⟩
        conv => whnf
        refine ⟨by rfl, ?_⟩
        conv => whnf
        refine ⟨by rfl, ?_⟩
        conv => whnf
        exact trivial
      · rintro ⟨i, hi⟩
        conv => whnf
        refine ⟨fun hc => ?_, fun hc => ?_⟩
        · have hc : i ≤ 63 := by have hc : (0 : Int) ≤ 63 - (i : Int) := by simpa using hc
                                 omega
          have hw : IntKind.u64.wrap (63 - (i : Int)) = ((63 - i : Nat) : Int) := by rw [IntKind.wrap_u64]; omega
          have hm : min (Int.toNat ((63 - i : Nat) : Int)) IntKind.u64.bits = 63 - i := by show min (Int.toNat ((63 - i : Nat) : Int)) 64 = 63 - i; omega
          have hb : (l.fdiv (2 ^ min (IntKind.u64.wrap (63 - (i : Int))).toNat IntKind.u64.bits)).tmod 2 = (l / ((2 ^ (63 - i) : Nat) : Int)) % 2 := by
            rw [hw, hm, show (2 : Int) ^ (63 - i) = ((2 ^ (63 - i) : Nat) : Int) by simp, Int.fdiv_eq_ediv_of_nonneg _ (Int.natCast_nonneg _), Int.tmod_eq_emod_of_nonneg (Int.ediv_nonneg l0 (Int.natCast_nonneg _))]
          have hs := hX i hc
          have hb0 : 0 ≤ (l / ((2 ^ (63 - i) : Nat) : Int)) % 2 := by omega
          have hb1 : (l / ((2 ^ (63 - i) : Nat) : Int)) % 2 < 2 := by omega
          obtain ⟨t1, t2⟩ := dstep (show 0 < d by omega) hb0 hb1 hs
          have r0 := Int.emod_nonneg (X i) (show d ≠ 0 by omega)
          have r1 := Int.emod_lt_of_pos (X i) (show 0 < d by omega)
          have q01 := hXq (i + 1) (by omega)
          have q00 := hXq i (by omega)
          have q2 : ((2 ^ (i + 1) : Nat) : Int) ≤ 18446744073709551616 := by
            have := Nat.pow_le_pow_right (show 0 < 2 by decide) (show i + 1 ≤ 64 by omega)
            omega
          generalize (l / ((2 ^ (63 - i) : Nat) : Int)) % 2 = b at *
          have p1 : ∀ z : Int, z * 2 ^ min (Int.toNat 1) IntKind.u64.bits = 2 * z := fun z => by show z * 2 = 2 * z; omega
          have p63 : ∀ z : Int, z.fdiv (2 ^ min (Int.toNat 63) IntKind.u64.bits) = z / 9223372036854775808 := fun z => by show z.fdiv 9223372036854775808 = _; exact Int.fdiv_eq_ediv_of_nonneg _ (by decide)
          have fin : ∀ (ov : Bool), (ov = true → d ≤ 2 * (X i % d) + b) → (ov = false → 2 * (X i % d) + b < d) →
              IntKind.u64.wrap (IntKind.u64.wrap (X i / d * 2 ^ min (Int.toNat 1) IntKind.u64.bits) + (if ov then 1 else 0)) = X (i + 1) / d ∧ IntKind.u64.wrap (IntKind.u64.wrap (IntKind.u64.wrap (X i % d * 2 ^ min (Int.toNat 1) IntKind.u64.bits) + b) - (if ov then d else 0)) = X (i + 1) % d := by
            intro ov o1 o2
            rw [p1, p1]
            cases ov with
            | true =>
              obtain ⟨u1, u2⟩ := t2 (o1 rfl)
              simp only [if_true]
              rw [u1]
              rw [u2] at q01 ⊢
              refine ⟨by rw [IntKind.wrap_u64, IntKind.wrap_u64]; omega, by rw [IntKind.wrap_u64, IntKind.wrap_u64, IntKind.wrap_u64]; omega⟩
            | false =>
              obtain ⟨u1, u2⟩ := t1 (o2 rfl)
              simp only [Bool.false_eq_true, if_false]
              rw [u1]
              rw [u2] at q01 ⊢
              refine ⟨by rw [IntKind.wrap_u64, IntKind.wrap_u64]; omega, by rw [IntKind.wrap_u64, IntKind.wrap_u64, IntKind.wrap_u64]; omega⟩
          have kk : IntKind.i64.wrap (63 - (i : Int) - 1) = 63 - ((i + 1 : Nat) : Int) := by rw [w64 _ (by omega) (by omega)]; omega
          have big1 : (X i % d).fdiv (2 ^ min (Int.toNat 63) IntKind.u64.bits) = 1 → d ≤ 2 * (X i % d) + b := by rw [p63]; omega
          have big2 : ¬ (X i % d).fdiv (2 ^ min (Int.toNat 63) IntKind.u64.bits) = 1 → (d ≤ IntKind.u64.wrap (IntKind.u64.wrap (X i % d * 2 ^ min (Int.toNat 1) IntKind.u64.bits) + b) ↔ d ≤ 2 * (X i % d) + b) := by
            rw [p63, p1, IntKind.wrap_u64, IntKind.wrap_u64]; omega
          have f1 := fin true
          have f0 := fin false
          simp only [if_true, Bool.false_eq_true, if_false, true_implies, false_implies, reduceCtorEq] at f1 f0
          have w00 : ∀ z : Int, IntKind.u64.wrap (IntKind.u64.wrap z) = IntKind.u64.wrap z := fun z => by rw [IntKind.wrap_u64, IntKind.wrap_u64]; omega
          simp only [Int.add_zero, Int.sub_zero, w00] at f0
          conv => whnf
          refine ⟨by decide, ?_⟩
          conv => whnf
          refine ⟨by decide, ?_⟩
          conv => whnf
          refine ⟨by show 0 ≤ IntKind.u64.wrap (63 - (i : Int)); rw [hw]; omega, ?_⟩
          conv => whnf
          refine ⟨by decide, ?_⟩
          conv => whnf
          refine ⟨by decide, ?_⟩
          conv => whnf
          refine ⟨fun h2 => ?_, fun h2 => ?_⟩
          · have hge := big1 (by simpa using h2)
            obtain ⟨f2, f3⟩ := f1 hge
            conv => whnf
            refine ⟨⟨i + 1, by omega⟩, by show 64 - (i + 1) < 64 - i; omega, .of [some 0] (by decide) ?_⟩
            conv => whnf
            refine ⟨by rfl, ?_⟩
            conv => whnf
            refine ⟨by rw [hb]; exact f3, ?_⟩
            conv => whnf
            refine ⟨by omega, ?_⟩
            conv => whnf
            refine ⟨by omega, ?_⟩
            conv => whnf
            refine ⟨by rfl, ?_⟩
            conv => whnf
            refine ⟨by rfl, ?_⟩
            conv => whnf
            exact trivial
          · have h2 : ¬ (X i % d).fdiv (2 ^ min (Int.toNat 63) IntKind.u64.bits) = 1 := by simpa using h2
            conv => whnf
            refine ⟨fun h3 => ?_, fun h3 => ?_⟩
            · simp only [hb, decide_eq_true_eq] at h3
              have hge := (big2 h2).1 h3
              obtain ⟨f2, f3⟩ := f1 hge
              conv => whnf
              refine ⟨⟨i + 1, by omega⟩, by show 64 - (i + 1) < 64 - i; omega, .of [some 0] (by decide) ?_⟩
              conv => whnf
              refine ⟨by rfl, ?_⟩
              conv => whnf
              refine ⟨by rw [hb]; exact f3, ?_⟩
              conv => whnf
              refine ⟨by omega, ?_⟩
              conv => whnf
              refine ⟨by omega, ?_⟩
              conv => whnf
              refine ⟨by rfl, ?_⟩
              conv => whnf
              refine ⟨by rfl, ?_⟩
              conv => whnf
              exact trivial
            · simp only [hb, decide_eq_false_iff_not] at h3
              have hge := mt (big2 h2).2 h3
              obtain ⟨f2, f3⟩ := f0 (by omega)
              conv => whnf
              refine ⟨⟨i + 1, by omega⟩, by show 64 - (i + 1) < 64 - i; omega, .of [some 0] (by decide) ?_⟩
              conv => whnf
              refine ⟨by rfl, ?_⟩
              conv => whnf
              refine ⟨by rw [hb]; exact f3, ?_⟩
              conv => whnf
              refine ⟨by omega, ?_⟩
              conv => whnf
              refine ⟨by omega, ?_⟩
              conv => whnf
              refine ⟨by rfl, ?_⟩
              conv => whnf
              refine ⟨by rfl, ?_⟩
              conv => whnf
              exact trivial
        · have hc : i = 64 := by have hc : 63 < (i : Int) := by simpa using hc
                                 omega
          subst hc
          clear hX hXq hXd hXd'
          conv => whnf
          refine .same ?_
          conv => whnf
          simp [dvq, dvr, dve, *]
end Go.Proofs.Ythlomoacacebeab

/- Contracts of package channel. No statement of the seat is proved here. -/
import Derived.Test.YthlomoacacebeacGen
import Derived.Test.YthlomoacacebeacCut2
namespace Go.Proofs.Ythlomoacacebeac
open Go.Sx
set_option linter.unusedSimpArgs false
set_option linter.unusedVariables false
theorem c32 {P : Nat → Prop} (h : P 0 ∧ P 1 ∧ P 2 ∧ P 3 ∧ P 4 ∧ P 5 ∧ P 6 ∧ P 7 ∧ P 8 ∧ P 9 ∧ P 10 ∧ P 11 ∧ P 12 ∧ P 13 ∧ P 14 ∧ P 15 ∧ P 16 ∧ P 17 ∧ P 18 ∧ P 19 ∧ P 20 ∧ P 21 ∧ P 22 ∧ P 23 ∧ P 24 ∧ P 25 ∧ P 26 ∧ P 27 ∧ P 28 ∧ P 29 ∧ P 30 ∧ P 31) : ∀ j, j < 32 → P j := by
  obtain ⟨h0, h1, h2, h3, h4, h5, h6, h7, h8, h9, h10, h11, h12, h13, h14, h15, h16, h17, h18, h19, h20, h21, h22, h23, h24, h25, h26, h27, h28, h29, h30, h31⟩ := h
  intro j hj
  match j with
    | 0 => exact h0
    | 1 => exact h1
    | 2 => exact h2
    | 3 => exact h3
    | 4 => exact h4
    | 5 => exact h5
    | 6 => exact h6
    | 7 => exact h7
    | 8 => exact h8
    | 9 => exact h9
    | 10 => exact h10
    | 11 => exact h11
    | 12 => exact h12
    | 13 => exact h13
    | 14 => exact h14
    | 15 => exact h15
    | 16 => exact h16
    | 17 => exact h17
    | 18 => exact h18
    | 19 => exact h19
    | 20 => exact h20
    | 21 => exact h21
    | 22 => exact h22
    | 23 => exact h23
    | 24 => exact h24
    | 25 => exact h25
    | 26 => exact h26
    | 27 => exact h27
    | 28 => exact h28
    | 29 => exact h29
    | 30 => exact h30
    | 31 => exact h31
    | j + 32 => omega
theorem at32 {z : Int} {K : Nat → Prop} (h0 : 0 ≤ z) (h1 : z < 32) (hk : ∀ j, j < 32 → z = ((j : Nat) : Int) → K j) : ∃ m : Nat, z = (m : Int) ∧ K m :=
  ⟨z.toNat, (Int.toNat_of_nonneg h0).symm, hk z.toNat (by omega) (Int.toNat_of_nonneg h0).symm⟩
abbrev prE (k a b : Int) : SV := .agg [.int .i64 k, .int .i64 a, .int .i64 b]
def chB (k a b : Int) (f : Nat → Bool) (n : Nat) (r : Int) (an tr : Bool) : Blk :=
  .fix 109 [.int .i64 k, .int .i64 a, .int .i64 b, .bool (f 0), .bool (f 1), .bool (f 2), .bool (f 3), .bool (f 4), .bool (f 5), .bool (f 6), .bool (f 7), .bool (f 8), .bool (f 9), .bool (f 10), .bool (f 11), .bool (f 12), .bool (f 13), .bool (f 14), .bool (f 15), .bool (f 16), .bool (f 17), .bool (f 18), .bool (f 19), .bool (f 20), .bool (f 21), .bool (f 22), .bool (f 23), .bool (f 24), .bool (f 25), .bool (f 26), .bool (f 27), .bool (f 28), .bool (f 29), .bool (f 30), .bool (f 31), .int .i64 (n : Int), .int .i64 r, .bool an, .bool tr]
def prOk (k a b : Int) : Bool := if k = 0 ∨ k = 2 then decide (a = 0) && decide (b = 0) else if k = 1 then decide (1 ≤ b) && decide (b ≤ 32) && decide (1 ≤ a) && decide (a ≤ b) else false
theorem cvalid_s (k a b : Int) : PSpec Try.prog 34 [prE k a b] (· = .bool (prOk k a b)) := by
  refine .of_code' tab_ok Try.func34 (by rfl) rfl trivial ?_
  conv => whnf
  refine ⟨fun hh0 => ?_, fun hh0 => ?_⟩
  · simp only [decide_eq_true_eq, decide_eq_false_iff_not] at hh0
    conv => whnf
    refine ⟨fun hh1 => ?_, fun hh1 => ?_⟩
    · simp only [decide_eq_true_eq, decide_eq_false_iff_not] at hh1
      conv => whnf
      simp [prOk, *]
    · simp only [decide_eq_true_eq, decide_eq_false_iff_not] at hh1
      conv => whnf
      simp [prOk, *]
  · simp only [decide_eq_true_eq, decide_eq_false_iff_not] at hh0
    conv => whnf
    refine ⟨fun hh2 => ?_, fun hh2 => ?_⟩
    · simp only [decide_eq_true_eq, decide_eq_false_iff_not] at hh2
      conv => whnf
      refine ⟨fun hh3 => ?_, fun hh3 => ?_⟩
      · simp only [decide_eq_true_eq, decide_eq_false_iff_not] at hh3
        conv => whnf
        simp [prOk, *]
      · simp only [decide_eq_true_eq, decide_eq_false_iff_not] at hh3
        conv => whnf
        simp [prOk, *]
    · simp only [decide_eq_true_eq, decide_eq_false_iff_not] at hh2
      conv => whnf
      refine ⟨fun hh4 => ?_, fun hh4 => ?_⟩
      · simp only [decide_eq_true_eq, decide_eq_false_iff_not] at hh4
        conv => whnf
        refine ⟨fun hh5 => ?_, fun hh5 => ?_⟩
        · simp only [decide_eq_true_eq, decide_eq_false_iff_not] at hh5
          conv => whnf
          refine ⟨fun hh6 => ?_, fun hh6 => ?_⟩
          · simp only [decide_eq_true_eq, decide_eq_false_iff_not] at hh6
            conv => whnf
            refine ⟨fun hh7 => ?_, fun hh7 => ?_⟩
            · simp only [decide_eq_true_eq, decide_eq_false_iff_not] at hh7
              conv => whnf
              simp [prOk, *]
            · simp only [decide_eq_true_eq, decide_eq_false_iff_not] at hh7
              conv => whnf
              simp [prOk, *]
          · simp only [decide_eq_true_eq, decide_eq_false_iff_not] at hh6
            conv => whnf
            simp [prOk, *]
        · simp only [decide_eq_true_eq, decide_eq_false_iff_not] at hh5
          conv => whnf
          simp [prOk, *]
      · simp only [decide_eq_true_eq, decide_eq_false_iff_not] at hh4
        conv => whnf
        simp [prOk, *]
theorem rpred_s (k a b : Int) : PSpec Try.prog 35 [prE k a b] (· = .bool (prOk k a b)) := by
  refine .of_code' tab_ok Try.func35 (by rfl) rfl trivial ?_
  conv => whnf
  refine ⟨fun hh0 => ?_, fun hh0 => ?_⟩
  · simp only [decide_eq_true_eq, decide_eq_false_iff_not] at hh0
    conv => whnf
    refine ⟨fun hh1 => ?_, fun hh1 => ?_⟩
    · simp only [decide_eq_true_eq, decide_eq_false_iff_not] at hh1
      conv => whnf
      simp [prOk, *]
    · simp only [decide_eq_true_eq, decide_eq_false_iff_not] at hh1
      conv => whnf
      simp [prOk, *]
  · simp only [decide_eq_true_eq, decide_eq_false_iff_not] at hh0
    conv => whnf
    refine ⟨fun hh2 => ?_, fun hh2 => ?_⟩
    · simp only [decide_eq_true_eq, decide_eq_false_iff_not] at hh2
      conv => whnf
      refine ⟨fun hh3 => ?_, fun hh3 => ?_⟩
      · simp only [decide_eq_true_eq, decide_eq_false_iff_not] at hh3
        conv => whnf
        simp [prOk, *]
      · simp only [decide_eq_true_eq, decide_eq_false_iff_not] at hh3
        conv => whnf
        simp [prOk, *]
    · simp only [decide_eq_true_eq, decide_eq_false_iff_not] at hh2
      conv => whnf
      refine ⟨fun hh4 => ?_, fun hh4 => ?_⟩
      · simp only [decide_eq_true_eq, decide_eq_false_iff_not] at hh4
        conv => whnf
        refine ⟨fun hh5 => ?_, fun hh5 => ?_⟩
        · simp only [decide_eq_true_eq, decide_eq_false_iff_not] at hh5
          conv => whnf
          refine ⟨fun hh6 => ?_, fun hh6 => ?_⟩
          · simp only [decide_eq_true_eq, decide_eq_false_iff_not] at hh6
            conv => whnf
            refine ⟨fun hh7 => ?_, fun hh7 => ?_⟩
            · simp only [decide_eq_true_eq, decide_eq_false_iff_not] at hh7
              conv => whnf
              simp [prOk, *]
            · simp only [decide_eq_true_eq, decide_eq_false_iff_not] at hh7
              conv => whnf
              simp [prOk, *]
          · simp only [decide_eq_true_eq, decide_eq_false_iff_not] at hh6
            conv => whnf
            simp [prOk, *]
        · simp only [decide_eq_true_eq, decide_eq_false_iff_not] at hh5
          conv => whnf
          simp [prOk, *]
      · simp only [decide_eq_true_eq, decide_eq_false_iff_not] at hh4
        conv => whnf
        simp [prOk, *]
def noF : Nat → Bool := fun _ => false
theorem cnew_yes (k a b : Int) (h : prOk k a b = true) : GSpec Try.prog 33 [prE k a b] [] fun s ho => s = .tup [.ptr 0 0, .int .i64 0] ∧ ho = [chB k a b noF 0 0 false false] := by
  refine .of_code tab_ok Try.func33 (by rfl) rfl ?_
  conv => whnf
  refine (cvalid_s _ _ _).call ?_
  rintro _ rfl
  conv => whnf
  refine both_f (by rw [h]; rfl) ?_
  conv => whnf
  refine OutG.of [some 1] (.tup [.ptr 0 0, .int .i64 0]) [chB k a b noF 0 0 false false] (by rfl) ⟨rfl, rfl⟩ ?_
  conv => whnf
  refine ⟨by rfl, ?_⟩
  conv => whnf
  refine ⟨by rfl, ?_⟩
  conv => whnf
  refine ⟨by rfl, ?_⟩
  conv => whnf
  refine ⟨by rfl, ?_⟩
  conv => whnf
  refine ⟨by rfl, ?_⟩
  conv => whnf
  refine ⟨by rfl, ?_⟩
  conv => whnf
  refine ⟨by rfl, ?_⟩
  conv => whnf
  refine ⟨by rfl, ?_⟩
  conv => whnf
  refine ⟨by rfl, ?_⟩
  conv => whnf
  refine ⟨by rfl, ?_⟩
  conv => whnf
  refine ⟨by rfl, ?_⟩
  conv => whnf
  refine ⟨by rfl, ?_⟩
  conv => whnf
  refine ⟨by rfl, ?_⟩
  conv => whnf
  refine ⟨by rfl, ?_⟩
  conv => whnf
  refine ⟨by rfl, ?_⟩
  conv => whnf
  refine ⟨by rfl, ?_⟩
  conv => whnf
  refine ⟨by rfl, ?_⟩
  conv => whnf
  refine ⟨by rfl, ?_⟩
  conv => whnf
  refine ⟨by rfl, ?_⟩
  conv => whnf
  refine ⟨by rfl, ?_⟩
  conv => whnf
  refine ⟨by rfl, ?_⟩
  conv => whnf
  refine ⟨by rfl, ?_⟩
  conv => whnf
  refine ⟨by rfl, ?_⟩
  conv => whnf
  refine ⟨by rfl, ?_⟩
  conv => whnf
  refine ⟨by rfl, ?_⟩
  conv => whnf
  refine ⟨by rfl, ?_⟩
  conv => whnf
  refine ⟨by rfl, ?_⟩
  conv => whnf
  refine ⟨by rfl, ?_⟩
  conv => whnf
  refine ⟨by rfl, ?_⟩
  conv => whnf
  refine ⟨by rfl, ?_⟩
  conv => whnf
  refine ⟨by rfl, ?_⟩
  conv => whnf
  refine ⟨by rfl, ?_⟩
  conv => whnf
  refine ⟨by rfl, ?_⟩
  conv => whnf
  refine ⟨by rfl, ?_⟩
  conv => whnf
  refine ⟨by rfl, ?_⟩
  conv => whnf
  refine ⟨by rfl, ?_⟩
  conv => whnf
  refine ⟨by rfl, ?_⟩
  conv => whnf
  refine ⟨by rfl, ?_⟩
  conv => whnf
  refine ⟨by rfl, ?_⟩
  conv => whnf
  refine ⟨by rfl, ?_⟩
  conv => whnf
  exact trivial
theorem cnew_no (k a b : Int) (h : prOk k a b = false) : GSpec Try.prog 33 [prE k a b] [] fun s ho => s = .tup [.nilp, .int .i64 1] ∧ ho = [] := by
  refine .of_code tab_ok Try.func33 (by rfl) rfl ?_
  conv => whnf
  refine (cvalid_s _ _ _).call ?_
  rintro _ rfl
  conv => whnf
  refine both_t (by rw [h]; rfl) ?_
  conv => whnf
  refine OutG.of [] (.tup [.nilp, .int .i64 1]) [] (by rfl) ⟨rfl, rfl⟩ ?_
  conv => whnf
  refine ⟨by rfl, ?_⟩
  conv => whnf
  exact trivial
def lastV (f : Nat → Bool) (n ago : Nat) : Bool := if n < ago then true else f ((n - ago) % 32)
theorem last_s (k a b : Int) (f : Nat → Bool) (n : Nat) (r : Int) (an tr : Bool) (ago : Nat) (hn : n ≤ 1000000) (ha : ago ≤ 32) :
    OSpec Try.prog 80 [.ptr 0 0, .int .i64 (ago : Int)] [chB k a b f n r an tr] fun s ho => s = .bool (lastV f n ago) ∧ ho = [chB k a b f n r an tr] := by
  refine .of_code tab_ok Try.func80 (by rfl) rfl trivial ?_
  conv => whnf
  refine DrawG.of mixed tab_ok ?_
  conv => whnf
  refine ⟨fun hb => ?_, fun hb => ?_⟩
  · simp only [decide_eq_true_eq, decide_eq_false_iff_not] at hb
    have e : lastV f n ago = true := if_pos (by omega)
    rw [e]
    conv => whnf
    refine ⟨by kernel_rfl, ?_⟩
    conv => whnf
    refine ⟨by rfl, ?_⟩
    conv => whnf
  · simp only [decide_eq_true_eq, decide_eq_false_iff_not] at hb
    have e : lastV f n ago = f ((n - ago) % 32) := if_neg (by omega)
    have ez : Int.tmod (IntKind.i64.wrap ((n : Int) - (ago : Int))) 32 = (((n - ago) % 32 : Nat) : Int) := by
      rw [w64 _ (by omega) (by omega), Int.tmod_eq_emod_of_nonneg (by omega)]; omega
    rw [e]
    conv => whnf
    refine ⟨by omega, ?_⟩
    conv => whnf
    refine ⟨by omega, ?_⟩
    conv => whnf
    refine at32 (by omega) (by omega) (c32 ⟨?_, ?_, ?_, ?_, ?_, ?_, ?_, ?_, ?_, ?_, ?_, ?_, ?_, ?_, ?_, ?_, ?_, ?_, ?_, ?_, ?_, ?_, ?_, ?_, ?_, ?_, ?_, ?_, ?_, ?_, ?_, ?_⟩)
    all_goals intro hz
    all_goals rw [ez] at hz
    all_goals rw [Int.ofNat.inj hz]
    all_goals conv => whnf
    all_goals refine ⟨by kernel_rfl, ?_⟩
    all_goals conv => whnf
    all_goals refine ⟨by rfl, ?_⟩
    all_goals conv => whnf
theorem last1_s (k a b : Int) (f : Nat → Bool) (n : Nat) (r : Int) (an tr : Bool) (hn : n ≤ 1000000) :
    OSpec Try.prog 80 [.ptr 0 0, .int .i64 1] [chB k a b f n r an tr] fun s ho => s = .bool (lastV f n 1) ∧ ho = [chB k a b f n r an tr] := last_s k a b f n r an tr 1 hn (by decide)
def cntG (f : Nat → Bool) (n : Nat) : Nat → Int
  | 0 => 0
  | m + 1 => cntG f n m + (if lastV f n (m + 1) = true then 1 else 0)
theorem cntG_rng (f : Nat → Bool) (n : Nat) : ∀ m, 0 ≤ cntG f n m ∧ cntG f n m ≤ m := by
  intro m
  induction m with
  | zero => simp [cntG]
  | succ m ih => simp only [cntG]; split <;> omega
def predV (k a b : Int) (f : Nat → Bool) (n : Nat) (an tr : Bool) : Bool := if k = 1 then decide (a ≤ cntG f n b.toNat) else if k = 2 ∧ an = true then tr else lastV f n 1
theorem prOk_b {k a b : Int} (h : prOk k a b = true) : 0 ≤ b ∧ b ≤ 32 := by
  unfold prOk at h; split at h
  · simp at h; omega
  · split at h
    · simp at h; omega
    · cases h
theorem predict_s (k a b : Int) (hp : prOk k a b = true) (f : Nat → Bool) (n : Nat) (r : Int) (an tr : Bool) (hn : n ≤ 1000000) :
    OSpec Try.prog 37 [.ptr 0 0] [chB k a b f n r an tr] fun s ho => s = .bool (predV k a b f n an tr) ∧ ho = [chB k a b f n r an tr] := by
  refine .of_code tab_ok Try.func37 (by rfl) rfl trivial ?_
  obtain ⟨b0, b1⟩ := prOk_b hp
  by_cases hk : k = 1
  · have e : predV k a b f n an tr = decide (a ≤ cntG f n b.toNat) := if_pos hk
    rw [e]
    conv => whnf
    refine both_t (by exact decide_eq_true hk) ?_
    conv => whnf
    refine LoopG.inv tab_ok 52 (fun m : { m : Nat // (m : Int) ≤ b } => [(0, .ptr 0 0), (3, .int .i64 (cntG f n m.1)), (4, .int .i64 ((m.1 + 1 : Nat) : Int))])
      (fun _ => [chB k a b f n r an tr]) (fun m => b.toNat - m.1) ⟨0, by omega⟩ (.of [some 0] (by rfl) ?_) ?_
    · conv => whnf
      refine ⟨by rfl, ?_⟩
      conv => whnf
      refine ⟨by rfl, ?_⟩
      conv => whnf
      refine ⟨by rfl, ?_⟩
      conv => whnf
      refine ⟨by rfl, ?_⟩
      conv => whnf
      refine ⟨by rfl, ?_⟩
      conv => whnf
      refine ⟨by rfl, ?_⟩
      conv => whnf
      refine ⟨by rfl, ?_⟩
      conv => whnf
      refine ⟨by rfl, ?_⟩
      conv => whnf
      refine ⟨by rfl, ?_⟩
      conv => whnf
      refine ⟨by rfl, ?_⟩
      conv => whnf
      refine ⟨by rfl, ?_⟩
      conv => whnf
      refine ⟨by rfl, ?_⟩
      conv => whnf
      refine ⟨by rfl, ?_⟩
      conv => whnf
      refine ⟨by rfl, ?_⟩
      conv => whnf
      refine ⟨by rfl, ?_⟩
      conv => whnf
      refine ⟨by rfl, ?_⟩
      conv => whnf
      refine ⟨by rfl, ?_⟩
      conv => whnf
      refine ⟨by rfl, ?_⟩
      conv => whnf
      refine ⟨by rfl, ?_⟩
      conv => whnf
      refine ⟨by rfl, ?_⟩
      conv => whnf
      refine ⟨by rfl, ?_⟩
      conv => whnf
      refine ⟨by rfl, ?_⟩
      conv => whnf
      refine ⟨by rfl, ?_⟩
      conv => whnf
      refine ⟨by rfl, ?_⟩
      conv => whnf
      refine ⟨by rfl, ?_⟩
      conv => whnf
      refine ⟨by rfl, ?_⟩
      conv => whnf
      refine ⟨by rfl, ?_⟩
      conv => whnf
      refine ⟨by rfl, ?_⟩
      conv => whnf
      refine ⟨by rfl, ?_⟩
      conv => whnf
      refine ⟨by rfl, ?_⟩
      conv => whnf
      refine ⟨by rfl, ?_⟩
      conv => whnf
      refine ⟨by rfl, ?_⟩
      conv => whnf
      refine ⟨by rfl, ?_⟩
      conv => whnf
      refine ⟨by rfl, ?_⟩
      conv => whnf
      refine ⟨by rfl, ?_⟩
      conv => whnf
      refine ⟨by rfl, ?_⟩
      conv => whnf
      refine ⟨by rfl, ?_⟩
      conv => whnf
      refine ⟨by rfl, ?_⟩
      conv => whnf
      refine ⟨by rfl, ?_⟩
      conv => whnf
      refine ⟨by rfl, ?_⟩
      conv => whnf
      refine ⟨by rfl, ?_⟩
      conv => whnf
      exact trivial
    · intro m
      have hm := m.2
      have cr := cntG_rng f n m.1
      conv => whnf
      refine ⟨fun hb => ?_, fun hb => ?_⟩
      · have hb : (m.1 : Int) + 1 ≤ b := by simp only [decide_eq_true_eq] at hb; omega
        have lm := last_s k a b f n r an tr (m.1 + 1) hn (by omega)
        have s1 : lastV f n (m.1 + 1) = true → IntKind.i64.wrap (cntG f n m.1 + 1) = cntG f n (m.1 + 1) := fun h => by rw [w64 _ (by omega) (by omega)]; simp [cntG, h]
        have s2 : lastV f n (m.1 + 1) = false → cntG f n m.1 = cntG f n (m.1 + 1) := fun h => by simp [cntG, h]
        have en : ((m.1 + 1 : Nat) : Int) + 1 = ((m.1 + 1 + 1 : Nat) : Int) := by omega
        conv => whnf
        refine lm.call [0] (by decide) (And.intro rfl trivial) (And.intro rfl trivial) ?_
        rintro _ _ ⟨rfl, rfl⟩
        conv => whnf
        refine ⟨fun hh0 => ?_, fun hh0 => ?_⟩
        · skip
          conv => whnf
          refine ⟨⟨m.1 + 1, by omega⟩, by show b.toNat - (m.1 + 1) < b.toNat - m.1; omega, .of [some 0] (by rfl) ?_⟩
          conv => whnf
          refine ⟨by simp [*], ?_⟩
          conv => whnf
          refine ⟨by exact (w64 _ (by omega) (by omega)).trans (by omega), ?_⟩
          conv => whnf
          refine ⟨by rfl, ?_⟩
          conv => whnf
          refine ⟨by rfl, ?_⟩
          conv => whnf
          refine ⟨by rfl, ?_⟩
          conv => whnf
          refine ⟨by rfl, ?_⟩
          conv => whnf
          refine ⟨by rfl, ?_⟩
          conv => whnf
          refine ⟨by rfl, ?_⟩
          conv => whnf
          refine ⟨by rfl, ?_⟩
          conv => whnf
          refine ⟨by rfl, ?_⟩
          conv => whnf
          refine ⟨by rfl, ?_⟩
          conv => whnf
          refine ⟨by rfl, ?_⟩
          conv => whnf
          refine ⟨by rfl, ?_⟩
          conv => whnf
          refine ⟨by rfl, ?_⟩
          conv => whnf
          refine ⟨by rfl, ?_⟩
          conv => whnf
          refine ⟨by rfl, ?_⟩
          conv => whnf
          refine ⟨by rfl, ?_⟩
          conv => whnf
          refine ⟨by rfl, ?_⟩
          conv => whnf
          refine ⟨by rfl, ?_⟩
          conv => whnf
          refine ⟨by rfl, ?_⟩
          conv => whnf
          refine ⟨by rfl, ?_⟩
          conv => whnf
          refine ⟨by rfl, ?_⟩
          conv => whnf
          refine ⟨by rfl, ?_⟩
          conv => whnf
          refine ⟨by rfl, ?_⟩
          conv => whnf
          refine ⟨by rfl, ?_⟩
          conv => whnf
          refine ⟨by rfl, ?_⟩
          conv => whnf
          refine ⟨by rfl, ?_⟩
          conv => whnf
          refine ⟨by rfl, ?_⟩
          conv => whnf
          refine ⟨by rfl, ?_⟩
          conv => whnf
          refine ⟨by rfl, ?_⟩
          conv => whnf
          refine ⟨by rfl, ?_⟩
          conv => whnf
          refine ⟨by rfl, ?_⟩
          conv => whnf
          refine ⟨by rfl, ?_⟩
          conv => whnf
          refine ⟨by rfl, ?_⟩
          conv => whnf
          refine ⟨by rfl, ?_⟩
          conv => whnf
          refine ⟨by rfl, ?_⟩
          conv => whnf
          refine ⟨by rfl, ?_⟩
          conv => whnf
          refine ⟨by rfl, ?_⟩
          conv => whnf
          refine ⟨by rfl, ?_⟩
          conv => whnf
          refine ⟨by rfl, ?_⟩
          conv => whnf
          refine ⟨by rfl, ?_⟩
          conv => whnf
          exact trivial
        · skip
          conv => whnf
          refine ⟨⟨m.1 + 1, by omega⟩, by show b.toNat - (m.1 + 1) < b.toNat - m.1; omega, .of [some 0] (by rfl) ?_⟩
          conv => whnf
          refine ⟨by simp [*], ?_⟩
          conv => whnf
          refine ⟨by exact (w64 _ (by omega) (by omega)).trans (by omega), ?_⟩
          conv => whnf
          refine ⟨by rfl, ?_⟩
          conv => whnf
          refine ⟨by rfl, ?_⟩
          conv => whnf
          refine ⟨by rfl, ?_⟩
          conv => whnf
          refine ⟨by rfl, ?_⟩
          conv => whnf
          refine ⟨by rfl, ?_⟩
          conv => whnf
          refine ⟨by rfl, ?_⟩
          conv => whnf
          refine ⟨by rfl, ?_⟩
          conv => whnf
          refine ⟨by rfl, ?_⟩
          conv => whnf
          refine ⟨by rfl, ?_⟩
          conv => whnf
          refine ⟨by rfl, ?_⟩
          conv => whnf
          refine ⟨by rfl, ?_⟩
          conv => whnf
          refine ⟨by rfl, ?_⟩
          conv => whnf
          refine ⟨by rfl, ?_⟩
          conv => whnf
          refine ⟨by rfl, ?_⟩
          conv => whnf
          refine ⟨by rfl, ?_⟩
          conv => whnf
          refine ⟨by rfl, ?_⟩
          conv => whnf
          refine ⟨by rfl, ?_⟩
          conv => whnf
          refine ⟨by rfl, ?_⟩
          conv => whnf
          refine ⟨by rfl, ?_⟩
          conv => whnf
          refine ⟨by rfl, ?_⟩
          conv => whnf
          refine ⟨by rfl, ?_⟩
          conv => whnf
          refine ⟨by rfl, ?_⟩
          conv => whnf
          refine ⟨by rfl, ?_⟩
          conv => whnf
          refine ⟨by rfl, ?_⟩
          conv => whnf
          refine ⟨by rfl, ?_⟩
          conv => whnf
          refine ⟨by rfl, ?_⟩
          conv => whnf
          refine ⟨by rfl, ?_⟩
          conv => whnf
          refine ⟨by rfl, ?_⟩
          conv => whnf
          refine ⟨by rfl, ?_⟩
          conv => whnf
          refine ⟨by rfl, ?_⟩
          conv => whnf
          refine ⟨by rfl, ?_⟩
          conv => whnf
          refine ⟨by rfl, ?_⟩
          conv => whnf
          refine ⟨by rfl, ?_⟩
          conv => whnf
          refine ⟨by rfl, ?_⟩
          conv => whnf
          refine ⟨by rfl, ?_⟩
          conv => whnf
          refine ⟨by rfl, ?_⟩
          conv => whnf
          refine ⟨by rfl, ?_⟩
          conv => whnf
          refine ⟨by rfl, ?_⟩
          conv => whnf
          refine ⟨by rfl, ?_⟩
          conv => whnf
          exact trivial
      · have hb : b.toNat = m.1 := by simp only [decide_eq_false_iff_not] at hb; omega
        rw [hb]
        conv => whnf
        refine .same ?_
        conv => whnf
        refine ⟨by rfl, ?_⟩
        conv => whnf
  · by_cases hk2 : k = 2
    · cases an with
      | true =>
        have e : predV k a b f n true tr = tr := by unfold predV; rw [if_neg hk, if_pos ⟨hk2, rfl⟩]
        rw [e]
        conv => whnf
        refine both_f (by simp; omega) ?_
        conv => whnf
        refine both_t (by simp; omega) ?_
        conv => whnf
        refine both_t rfl ?_
        conv => whnf
        refine ⟨by rfl, ?_⟩
        conv => whnf
      | false =>
        have e : predV k a b f n false tr = lastV f n 1 := by unfold predV; rw [if_neg hk, if_neg (fun h => by cases h.2)]
        rw [e]
        conv => whnf
        refine both_f (by simp; omega) ?_
        conv => whnf
        refine both_t (by simp; omega) ?_
        conv => whnf
        refine both_f rfl ?_
        conv => whnf
        refine (last1_s _ _ _ _ _ _ _ _ (by first | omega | assumption | decide | simp)).call [0] (by decide) (And.intro rfl trivial) (And.intro rfl trivial) ?_
        rintro _ _ ⟨rfl, rfl⟩
        conv => whnf
        refine ⟨by rfl, ?_⟩
        conv => whnf
    · have e : predV k a b f n an tr = lastV f n 1 := by unfold predV; rw [if_neg hk, if_neg (fun h => hk2 h.1)]
      rw [e]
      conv => whnf
      refine both_f (by simp; omega) ?_
      conv => whnf
      refine both_f (by simp; omega) ?_
      conv => whnf
      refine (last1_s _ _ _ _ _ _ _ _ (by first | omega | assumption | decide | simp)).call [0] (by decide) (And.intro rfl trivial) (And.intro rfl trivial) ?_
      rintro _ _ ⟨rfl, rfl⟩
      conv => whnf
      refine ⟨by rfl, ?_⟩
      conv => whnf
def upd (f : Nat → Bool) (m : Nat) (g : Bool) : Nat → Bool := fun i => if i = m then g else f i
set_option maxHeartbeats 4000000 in
theorem observe_s (k a b : Int) (hp : prOk k a b = true) (f : Nat → Bool) (n : Nat) (r : Int) (an tr g : Bool) (hn : n ≤ 100000) (hr : 0 ≤ r ∧ r ≤ 100000) :
    GSpec Try.prog 38 [.ptr 0 0, .bool g] [chB k a b f n r an tr] fun s ho => s = .tup [] ∧ ho = [chB k a b (upd f (n % 32) g) (n + 1) (if predV k a b f n an tr = g then r + 1 else r) false tr] := by
  refine .of_code tab_ok Try.func38 (by rfl) rfl ?_
  have ez : Int.tmod (n : Int) 32 = ((n % 32 : Nat) : Int) := by rw [Int.tmod_eq_emod_of_nonneg (by omega)]; omega
  have en : IntKind.i64.wrap ((n : Int) + 1) = ((n + 1 : Nat) : Int) := by rw [w64 _ (by omega) (by omega)]; omega
  have er : IntKind.i64.wrap (r + 1) = r + 1 := w64 _ (by omega) (by omega)
  conv => whnf
  refine (predict_s k a b hp f n r an tr (by omega)).call [0] (by decide) trivial (And.intro rfl trivial) ?_
  rintro _ _ ⟨rfl, rfl⟩
  conv => whnf
  refine ⟨fun hb => ?_, fun hb => ?_⟩
  · have hb : predV k a b f n an tr = g := by simpa using hb
    rw [if_pos hb]
    conv => whnf
    refine DrawG.of mixed tab_ok ?_
    conv => whnf
    refine ⟨by omega, ?_⟩
    conv => whnf
    refine ⟨by omega, ?_⟩
    conv => whnf
    refine at32 (by omega) (by omega) (c32 ⟨?_, ?_, ?_, ?_, ?_, ?_, ?_, ?_, ?_, ?_, ?_, ?_, ?_, ?_, ?_, ?_, ?_, ?_, ?_, ?_, ?_, ?_, ?_, ?_, ?_, ?_, ?_, ?_, ?_, ?_, ?_, ?_⟩)
    all_goals intro hz
    all_goals rw [ez] at hz
    all_goals rw [Int.ofNat.inj hz]
    all_goals conv => whnf
    all_goals refine ⟨by kernel_rfl, ?_⟩
    all_goals conv => whnf
    all_goals refine OutG.of [some 0] (.tup []) [chB k a b (upd f _ g) (n + 1) (r + 1) false tr] (by rfl) ⟨rfl, rfl⟩ ?_
    all_goals repeat ((conv => whnf); refine ⟨by first | rfl | exact en | exact er, ?_⟩)
    all_goals exact trivial
  · have hb : ¬ predV k a b f n an tr = g := by simpa using hb
    rw [if_neg hb]
    conv => whnf
    refine DrawG.of mixed tab_ok ?_
    conv => whnf
    refine ⟨by omega, ?_⟩
    conv => whnf
    refine ⟨by omega, ?_⟩
    conv => whnf
    refine at32 (by omega) (by omega) (c32 ⟨?_, ?_, ?_, ?_, ?_, ?_, ?_, ?_, ?_, ?_, ?_, ?_, ?_, ?_, ?_, ?_, ?_, ?_, ?_, ?_, ?_, ?_, ?_, ?_, ?_, ?_, ?_, ?_, ?_, ?_, ?_, ?_⟩)
    all_goals intro hz
    all_goals rw [ez] at hz
    all_goals rw [Int.ofNat.inj hz]
    all_goals conv => whnf
    all_goals refine ⟨by kernel_rfl, ?_⟩
    all_goals conv => whnf
    all_goals refine OutG.of [some 0] (.tup []) [chB k a b (upd f _ g) (n + 1) r false tr] (by rfl) ⟨rfl, rfl⟩ ?_
    all_goals repeat ((conv => whnf); refine ⟨by first | rfl | exact en | exact er, ?_⟩)
    all_goals exact trivial
theorem announce_s (k a b : Int) (f : Nat → Bool) (n : Nat) (r : Int) (an tr g : Bool) :
    GSpec Try.prog 39 [.ptr 0 0, .bool g] [chB k a b f n r an tr] fun s ho => s = .tup [] ∧ ho = [chB k a b f n r true g] := by
  refine .of_code tab_ok Try.func39 (by rfl) rfl ?_
  conv => whnf
  refine OutG.of [some 0] (.tup []) [chB k a b f n r true g] (by rfl) ⟨rfl, rfl⟩ ?_
  conv => whnf
  refine ⟨by rfl, ?_⟩
  conv => whnf
  refine ⟨by rfl, ?_⟩
  conv => whnf
  refine ⟨by rfl, ?_⟩
  conv => whnf
  refine ⟨by rfl, ?_⟩
  conv => whnf
  refine ⟨by rfl, ?_⟩
  conv => whnf
  refine ⟨by rfl, ?_⟩
  conv => whnf
  refine ⟨by rfl, ?_⟩
  conv => whnf
  refine ⟨by rfl, ?_⟩
  conv => whnf
  refine ⟨by rfl, ?_⟩
  conv => whnf
  refine ⟨by rfl, ?_⟩
  conv => whnf
  refine ⟨by rfl, ?_⟩
  conv => whnf
  refine ⟨by rfl, ?_⟩
  conv => whnf
  refine ⟨by rfl, ?_⟩
  conv => whnf
  refine ⟨by rfl, ?_⟩
  conv => whnf
  refine ⟨by rfl, ?_⟩
  conv => whnf
  refine ⟨by rfl, ?_⟩
  conv => whnf
  refine ⟨by rfl, ?_⟩
  conv => whnf
  refine ⟨by rfl, ?_⟩
  conv => whnf
  refine ⟨by rfl, ?_⟩
  conv => whnf
  refine ⟨by rfl, ?_⟩
  conv => whnf
  refine ⟨by rfl, ?_⟩
  conv => whnf
  refine ⟨by rfl, ?_⟩
  conv => whnf
  refine ⟨by rfl, ?_⟩
  conv => whnf
  refine ⟨by rfl, ?_⟩
  conv => whnf
  refine ⟨by rfl, ?_⟩
  conv => whnf
  refine ⟨by rfl, ?_⟩
  conv => whnf
  refine ⟨by rfl, ?_⟩
  conv => whnf
  refine ⟨by rfl, ?_⟩
  conv => whnf
  refine ⟨by rfl, ?_⟩
  conv => whnf
  refine ⟨by rfl, ?_⟩
  conv => whnf
  refine ⟨by rfl, ?_⟩
  conv => whnf
  refine ⟨by rfl, ?_⟩
  conv => whnf
  refine ⟨by rfl, ?_⟩
  conv => whnf
  refine ⟨by rfl, ?_⟩
  conv => whnf
  refine ⟨by rfl, ?_⟩
  conv => whnf
  refine ⟨by rfl, ?_⟩
  conv => whnf
  refine ⟨by rfl, ?_⟩
  conv => whnf
  refine ⟨by rfl, ?_⟩
  conv => whnf
  refine ⟨by rfl, ?_⟩
  conv => whnf
  exact trivial
theorem score_s (k a b : Int) (f : Nat → Bool) (n : Nat) (r : Int) (an tr : Bool) :
    OSpec Try.prog 40 [.ptr 0 0] [chB k a b f n r an tr] fun s ho => s = .tup [.int .i64 (n : Int), .int .i64 r] ∧ ho = [chB k a b f n r an tr] := by
  refine .of_code tab_ok Try.func40 (by rfl) rfl trivial ?_
  conv => whnf
  refine DrawG.of mixed tab_ok ?_
  conv => whnf
  refine ⟨by kernel_rfl, ?_⟩
  conv => whnf
  refine ⟨by rfl, ?_⟩
  conv => whnf
abbrev bls (L : List Bool) : List (List SV) := L.map fun b => [SV.bool b]
def hsT (f : Nat → Bool) (n : Nat) : Nat → List Bool
  | 0 => []
  | m + 1 => lastV f n (m + 1) :: hsT f n m
theorem hsT_len (f : Nat → Bool) (n : Nat) : ∀ m, (hsT f n m).length = m := by
  intro m
  induction m with
  | zero => rfl
  | succ m ih => simp [hsT, ih]
def hsM (n : Nat) : Nat := if n ≤ 32 then n else 32
theorem bls_app (L : List Bool) (b : Bool) : bls L ++ [[SV.bool b]] = bls (L ++ [b]) := by simp
theorem history_s (k a b : Int) (f : Nat → Bool) (n : Nat) (r : Int) (an tr : Bool) (hn : n ≤ 100000) :
    OSpec Try.prog 47 [.ptr 0 0] [chB k a b f n r an tr] fun s ho => s = .rs 1 (bls (hsT f n (hsM n))) ∧ ho = [chB k a b f n r an tr] := by
  refine .of_code tab_ok Try.func47 (by rfl) rfl trivial ?_
  have hM : hsM n ≤ 32 ∧ (if (32 : Int) < (n : Int) then 32 else (n : Int)) = (hsM n : Int) := by unfold hsM; constructor <;> split <;> (try split) <;> omega
  conv => whnf
  refine LoopG.inv tab_ok 21 (fun x : { x : List Bool × Nat // x.1 ++ hsT f n x.2 = hsT f n (hsM n) ∧ x.2 ≤ 32 ∧ x.1.length + x.2 = hsM n } => [(0, .ptr 0 0), (3, .sl 1), (4, .int .i64 (x.1.2 : Int))])
    (fun x => [chB k a b f n r an tr, .row 4 1 (bls x.1.1)]) (fun x => x.1.2) ⟨([], hsM n), rfl, hM.1, by simp⟩ (.of [some 0, none] (by rfl) ?_) ?_
  · conv => whnf
    refine ⟨by simp; omega, ?_⟩
    conv => whnf
    refine ⟨by rfl, ?_⟩
    conv => whnf
    refine ⟨by rfl, ?_⟩
    conv => whnf
    refine ⟨by rfl, ?_⟩
    conv => whnf
    refine ⟨by rfl, ?_⟩
    conv => whnf
    refine ⟨by rfl, ?_⟩
    conv => whnf
    refine ⟨by rfl, ?_⟩
    conv => whnf
    refine ⟨by rfl, ?_⟩
    conv => whnf
    refine ⟨by rfl, ?_⟩
    conv => whnf
    refine ⟨by rfl, ?_⟩
    conv => whnf
    refine ⟨by rfl, ?_⟩
    conv => whnf
    refine ⟨by rfl, ?_⟩
    conv => whnf
    refine ⟨by rfl, ?_⟩
    conv => whnf
    refine ⟨by rfl, ?_⟩
    conv => whnf
    refine ⟨by rfl, ?_⟩
    conv => whnf
    refine ⟨by rfl, ?_⟩
    conv => whnf
    refine ⟨by rfl, ?_⟩
    conv => whnf
    refine ⟨by rfl, ?_⟩
    conv => whnf
    refine ⟨by rfl, ?_⟩
    conv => whnf
    refine ⟨by rfl, ?_⟩
    conv => whnf
    refine ⟨by rfl, ?_⟩
    conv => whnf
    refine ⟨by rfl, ?_⟩
    conv => whnf
    refine ⟨by rfl, ?_⟩
    conv => whnf
    refine ⟨by rfl, ?_⟩
    conv => whnf
    refine ⟨by rfl, ?_⟩
    conv => whnf
    refine ⟨by rfl, ?_⟩
    conv => whnf
    refine ⟨by rfl, ?_⟩
    conv => whnf
    refine ⟨by rfl, ?_⟩
    conv => whnf
    refine ⟨by rfl, ?_⟩
    conv => whnf
    refine ⟨by rfl, ?_⟩
    conv => whnf
    refine ⟨by rfl, ?_⟩
    conv => whnf
    refine ⟨by rfl, ?_⟩
    conv => whnf
    refine ⟨by rfl, ?_⟩
    conv => whnf
    refine ⟨by rfl, ?_⟩
    conv => whnf
    refine ⟨by rfl, ?_⟩
    conv => whnf
    refine ⟨by rfl, ?_⟩
    conv => whnf
    refine ⟨by rfl, ?_⟩
    conv => whnf
    refine ⟨by rfl, ?_⟩
    conv => whnf
    refine ⟨by rfl, ?_⟩
    conv => whnf
    refine ⟨by rfl, ?_⟩
    conv => whnf
    refine ⟨by rfl, ?_⟩
    conv => whnf
    exact trivial
  · intro x
    obtain ⟨hx1, hx2, hx3⟩ := x.2
    conv => whnf
    refine ⟨fun hb => ?_, fun hb => ?_⟩
    · have hb : 1 ≤ x.1.2 := by simp only [decide_eq_true_eq] at hb; omega
      obtain ⟨m, hm⟩ : ∃ m, x.1.2 = m + 1 := ⟨x.1.2 - 1, by omega⟩
      have hx1' : (x.1.1 ++ [lastV f n (m + 1)]) ++ hsT f n m = hsT f n (hsM n) := by refine Eq.trans ?_ hx1; rw [hm]; simp [hsT]
      have e1 : IntKind.i64.wrap (((m + 1 : Nat) : Int) - 1) = (m : Int) := by rw [w64 _ (by omega) (by omega)]; omega
      rw [hm]
      conv => whnf
      refine (last_s k a b f n r an tr (m + 1) (by omega) (by omega)).call [0] (by decide) (And.intro rfl trivial) (And.intro rfl trivial) ?_
      rintro _ _ ⟨rfl, rfl⟩
      conv => whnf
      refine ⟨by simp; omega, ?_⟩
      conv => whnf
      refine ⟨⟨(x.1.1 ++ [lastV f n (m + 1)], m), hx1', by show m ≤ 32; omega, by simp; omega⟩, by show m < x.1.2; omega, .of [some 0, some 3] (by rfl) ?_⟩
      conv => whnf
      refine ⟨by omega, ?_⟩
      conv => whnf
      refine ⟨by rfl, ?_⟩
      conv => whnf
      refine ⟨by rfl, ?_⟩
      conv => whnf
      refine ⟨by rfl, ?_⟩
      conv => whnf
      refine ⟨by rfl, ?_⟩
      conv => whnf
      refine ⟨by rfl, ?_⟩
      conv => whnf
      refine ⟨by rfl, ?_⟩
      conv => whnf
      refine ⟨by rfl, ?_⟩
      conv => whnf
      refine ⟨by rfl, ?_⟩
      conv => whnf
      refine ⟨by rfl, ?_⟩
      conv => whnf
      refine ⟨by rfl, ?_⟩
      conv => whnf
      refine ⟨by rfl, ?_⟩
      conv => whnf
      refine ⟨by rfl, ?_⟩
      conv => whnf
      refine ⟨by rfl, ?_⟩
      conv => whnf
      refine ⟨by rfl, ?_⟩
      conv => whnf
      refine ⟨by rfl, ?_⟩
      conv => whnf
      refine ⟨by rfl, ?_⟩
      conv => whnf
      refine ⟨by rfl, ?_⟩
      conv => whnf
      refine ⟨by rfl, ?_⟩
      conv => whnf
      refine ⟨by rfl, ?_⟩
      conv => whnf
      refine ⟨by rfl, ?_⟩
      conv => whnf
      refine ⟨by rfl, ?_⟩
      conv => whnf
      refine ⟨by rfl, ?_⟩
      conv => whnf
      refine ⟨by rfl, ?_⟩
      conv => whnf
      refine ⟨by rfl, ?_⟩
      conv => whnf
      refine ⟨by rfl, ?_⟩
      conv => whnf
      refine ⟨by rfl, ?_⟩
      conv => whnf
      refine ⟨by rfl, ?_⟩
      conv => whnf
      refine ⟨by rfl, ?_⟩
      conv => whnf
      refine ⟨by rfl, ?_⟩
      conv => whnf
      refine ⟨by rfl, ?_⟩
      conv => whnf
      refine ⟨by rfl, ?_⟩
      conv => whnf
      refine ⟨by rfl, ?_⟩
      conv => whnf
      refine ⟨by rfl, ?_⟩
      conv => whnf
      refine ⟨by rfl, ?_⟩
      conv => whnf
      refine ⟨by rfl, ?_⟩
      conv => whnf
      refine ⟨by rfl, ?_⟩
      conv => whnf
      refine ⟨by rfl, ?_⟩
      conv => whnf
      refine ⟨by rfl, ?_⟩
      conv => whnf
      refine ⟨by rfl, ?_⟩
      conv => whnf
      refine ⟨by simp, ?_⟩
      conv => whnf
      exact trivial
    · have hb : x.1.2 = 0 := by simp only [decide_eq_false_iff_not] at hb; omega
      have e : x.1.1 = hsT f n (hsM n) := by refine Eq.trans ?_ hx1; rw [hb]; simp [hsT]
      rw [e]
      conv => whnf
      refine .same ?_
      conv => whnf
      refine ⟨by rfl, ?_⟩
      conv => whnf
end Go.Proofs.Ythlomoacacebeac

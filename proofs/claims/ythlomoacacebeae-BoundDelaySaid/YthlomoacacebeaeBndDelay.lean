/- Delay in full and its reference; the contract of BoundDelay. No statement of the seat is proved here. -/
import Derived.Test.YthlomoacacebeaeBndTurn
namespace Go.Proofs.Ythlomoacacebeae
open Go.Sx
set_option linter.unusedSimpArgs false
set_option linter.unusedVariables false
/-- The weights that are drawn, exactly. -/
def wtl (ls : List Int) : Nat → Int → List Int → List Int
  | 0, _, acc => acc
  | k + 1, a, acc => wtl ls k (a + 1) (acc ++ [wex ls a])
theorem wtl_len (ls : List Int) : ∀ (k : Nat) (a : Int) (acc : List Int), (wtl ls k a acc).length = acc.length + k := by
  intro k
  induction k with
  | zero => intro a acc; simp [wtl]
  | succ k ih => intro a acc; simp [wtl, ih]; omega
def wxk (ls : List Int) (a : Int) : Nat := (nxt ls a 6).toNat
def wxb (ls : List Int) (a : Int) : List Int := wtl ls (wxk ls a) (a + 1) []
def wxc (ls : List Int) (a : Int) : Int := a + 1 + (wxk ls a : Int)
def wxl (ls : List Int) (a : Int) : List Int := if nxt ls (wxc ls a) 15 = 0 then wxb ls a ++ [[0, 17].getD (nxt ls (wxc ls a + 1) 2).toNat 0] else if nxt ls (wxc ls a) 15 = 1 then List.replicate 33 0 else wxb ls a
def wxa (ls : List Int) (a : Int) : Int := if nxt ls (wxc ls a) 15 = 0 then wxc ls a + 1 + 1 else wxc ls a + 1
theorem wxk_le (ls : List Int) (a : Int) : wxk ls a ≤ 5 ∧ (wxk ls a : Int) = nxt ls a 6 := by
  have k0 := nxt_lo ls a 6
  have k1 := nxt_hi ls a 6 (by omega)
  unfold wxk; omega
theorem wxa_rng (ls : List Int) (a : Int) : a ≤ wxa ls a ∧ wxa ls a ≤ a + 8 := by
  have := wxk_le ls a
  unfold wxa wxc; split <;> omega
theorem wxb_len (ls : List Int) (a : Int) : (wxb ls a).length ≤ 5 := by
  have := wxk_le ls a
  simp [wxb, wtl_len]; omega
theorem wxl_len (ls : List Int) (a : Int) : (wxl ls a).length ≤ 33 := by
  have := wxb_len ls a
  unfold wxl; split
  · simp; omega
  · split
    · simp
    · omega
theorem wl0 {ls : List Int} {a : Int} (h : nxt ls (wxc ls a) 15 = 0) : nums (wxb ls a) ++ [[SV.int IntKind.i64 ([0, 17].getD (nxt ls (wxc ls a + 1) 2).toNat 0)]] = nums (wxl ls a) ∧ wxc ls a + 1 + 1 = wxa ls a := by
  rw [nums_app]; simp [wxl, wxa, h]
theorem wl1 {ls : List Int} {a : Int} (h0 : ¬ nxt ls (wxc ls a) 15 = 0) (h : nxt ls (wxc ls a) 15 = 1) : List.replicate (Int.toNat 33) [SV.int IntKind.i64 0] = nums (wxl ls a) ∧ wxc ls a + 1 = wxa ls a := by
  simp [wxl, wxa, h, nums]
theorem wl2 {ls : List Int} {a : Int} (h0 : ¬ nxt ls (wxc ls a) 15 = 0) (h : ¬ nxt ls (wxc ls a) 15 = 1) : nums (wxb ls a) = nums (wxl ls a) ∧ wxc ls a + 1 = wxa ls a := by
  simp [wxl, wxa, h, h0]
theorem weightsx_s (ls : List Int) (at' : Int) (h0 : 0 ≤ at') (h1 : at' < 9223372036854775000) :
    OSpec Try.prog 14 [.ptr 0 0] [chs ls at'] fun s ho => s = .rs 1 (nums (wxl ls at')) ∧ ho = [chs ls (wxa ls at')] := by
  refine .of_code tab_ok Try.func14 (by rfl) rfl trivial ?_
  have k0 := nxt_lo ls at' 6
  have k1 := nxt_hi ls at' 6 (by omega)
  have kk := wxk_le ls at'
  have bl := wxb_len ls at'
  conv => whnf
  refine (next_s ls at' 6 (by omega) (by omega) (by omega)).call [0] (by decide) (And.intro rfl trivial) (And.intro rfl trivial) ?_
  rintro _ _ ⟨rfl, rfl⟩
  conv => whnf
  refine LoopG.inv tab_ok 32 (fun x : { x : List Int × Nat × Int // wtl ls x.2.1 x.2.2 x.1 = wxb ls at' ∧ x.2.2 + (x.2.1 : Int) = wxc ls at' ∧ at' ≤ x.2.2 ∧ x.2.1 ≤ 5 } => [(0, .ptr 0 0), (3, .sl 1), (4, .int .i64 (x.1.2.1 : Int))])
    (fun x => [chs ls x.1.2.2, .row 3 1 (nums x.1.1)]) (fun x => x.1.2.1) ⟨([], wxk ls at', at' + 1), rfl, rfl, by show at' ≤ at' + 1; omega, by exact kk.1⟩ (.of [some 0, none] (by rfl) ?_) ?_
  · conv => whnf
    refine ⟨by simp; omega, ?_⟩
    conv => whnf
    refine ⟨by rfl, ?_⟩
    conv => whnf
    refine ⟨by rfl, ?_⟩
    conv => whnf
    refine ⟨by rfl, ?_⟩
    conv => whnf
    exact trivial
  · intro x
    obtain ⟨hx1, hx2, hx3, hx4⟩ := x.2
    have hlen : x.1.1.length + x.1.2.1 ≤ 5 := by rw [← hx1, wtl_len] at bl; exact bl
    have hwc : wxc ls at' ≤ at' + 6 := by unfold wxc; omega
    conv => whnf
    refine ⟨fun hb => ?_, fun hb => ?_⟩
    · have hb : (0 : Int) < (x.1.2.1 : Int) := by simpa using hb
      have e3 : IntKind.i64.wrap ((x.1.2.1 : Int) - 1) = ((x.1.2.1 - 1 : Nat) : Int) := by rw [w64 _ (by omega) (by omega)]; omega
      have e4 : wtl ls (x.1.2.1 - 1) (x.1.2.2 + 1) (x.1.1 ++ [wex ls x.1.2.2]) = wxb ls at' := by
        refine Eq.trans ?_ hx1
        obtain ⟨m, hm⟩ : ∃ m, x.1.2.1 = m + 1 := ⟨x.1.2.1 - 1, by omega⟩
        rw [hm]; rfl
      conv => whnf
      refine (weight_s _ _ (by first | omega | assumption | decide | simp) (by first | omega | assumption | decide | simp)).call [0] (by decide) trivial (And.intro rfl trivial) ?_
      rintro _ _ ⟨rfl, rfl⟩
      conv => whnf
      refine ⟨by (simp [nums_len]; omega), ?_⟩
      conv => whnf
      refine ⟨⟨(x.1.1 ++ [wex ls x.1.2.2], x.1.2.1 - 1, x.1.2.2 + 1), e4, by show x.1.2.2 + 1 + ((x.1.2.1 - 1 : Nat) : Int) = _; omega, by show at' ≤ x.1.2.2 + 1; omega, by show x.1.2.1 - 1 ≤ 5; omega⟩, by show x.1.2.1 - 1 < x.1.2.1; omega, .of [some 0, some 3] (by rfl) ?_⟩
      conv => whnf
      refine ⟨by omega, ?_⟩
      conv => whnf
      refine ⟨by rfl, ?_⟩
      conv => whnf
      refine ⟨by rfl, ?_⟩
      conv => whnf
      refine ⟨by (rw [nums_app]), ?_⟩
      conv => whnf
      exact trivial
    · have hb : ¬ (0 : Int) < (x.1.2.1 : Int) := by simpa using hb
      have hz : x.1.2.1 = 0 := by omega
      have e1 : x.1.1 = wxb ls at' := by rw [hz] at hx1; exact hx1
      have e2 : x.1.2.2 = wxc ls at' := by omega
      rw [e1, e2]
      have c1 : at' ≤ wxc ls at' := by omega
      conv => whnf
      refine .same ?_
      conv => whnf
      refine (next_s _ _ _ (by first | omega | assumption | decide | simp) (by first | omega | assumption | decide | simp) (by first | omega | assumption | decide | simp)).call [0] (by decide) (And.intro rfl trivial) (And.intro rfl trivial) ?_
      rintro _ _ ⟨rfl, rfl⟩
      conv => whnf
      refine ⟨fun hh10 => ?_, fun hh10 => ?_⟩
      · simp only [decide_eq_true_eq, decide_eq_false_iff_not] at hh10
        conv => whnf
        refine (next_s _ _ _ (by first | omega | assumption | decide | simp) (by first | omega | assumption | decide | simp) (by first | omega | assumption | decide | simp)).call [0] (by decide) (And.intro rfl trivial) (And.intro rfl trivial) ?_
        rintro _ _ ⟨rfl, rfl⟩
        conv => whnf
        refine ⟨by exact ⟨nxt_lo _ _ _, nxt_hi _ _ _ (by omega)⟩, ?_⟩
        conv => whnf
        refine ⟨_, lit_get (l := [0, 17]) (nxt_lo _ _ _) (nxt_hi _ _ _ (by decide)), ?_⟩
        conv => whnf
        refine ⟨by (simp [nums_len]; omega), ?_⟩
        conv => whnf
        refine ⟨by exact congrArg (SV.rs 1) (wl0 (by assumption)).1, ?_⟩
        conv => whnf
        (rw [(wl0 (by assumption)).2])
      · simp only [decide_eq_true_eq, decide_eq_false_iff_not] at hh10
        conv => whnf
        refine ⟨fun hh22 => ?_, fun hh22 => ?_⟩
        · simp only [decide_eq_true_eq, decide_eq_false_iff_not] at hh22
          conv => whnf
          refine ⟨by simp, ?_⟩
          conv => whnf
          refine ⟨by exact congrArg (SV.rs 1) (wl1 (by assumption) (by assumption)).1, ?_⟩
          conv => whnf
          (rw [(wl1 (by assumption) (by assumption)).2])
        · simp only [decide_eq_true_eq, decide_eq_false_iff_not] at hh22
          conv => whnf
          refine ⟨by exact congrArg (SV.rs 1) (wl2 (by assumption) (by assumption)).1, ?_⟩
          conv => whnf
          (rw [(wl2 (by assumption) (by assumption)).2])
def dlO (ls : List Int) (a b i n : Int) : Prop := tnO ls i ∧ alpOk a b = true ∧ 0 ≤ n ∧ n ≤ 1048576
open Classical in
noncomputable def dlV (ls : List Int) (a b i n : Int) : Int := if dlO ls a b i n then IntKind.i64.wrap (IntKind.i64.wrap (IntKind.i64.wrap (n * tnv ls i) * IntKind.i64.wrap (kpv a b + 1)) * lov ls) else 0
open Classical in
noncomputable def dlE (ls : List Int) (a b i n : Int) : Int := if dlO ls a b i n then 0 else 1
theorem dl_yes {ls : List Int} {a b i n : Int} (h : dlO ls a b i n) : dlV ls a b i n = IntKind.i64.wrap (IntKind.i64.wrap (IntKind.i64.wrap (n * tnv ls i) * IntKind.i64.wrap (kpv a b + 1)) * lov ls) ∧ dlE ls a b i n = 0 := by simp [dlV, dlE, h]
theorem dl_no {ls : List Int} {a b i n : Int} (h : ¬ dlO ls a b i n) : dlV ls a b i n = 0 ∧ dlE ls a b i n = 1 := by simp [dlV, dlE, h]
theorem tne_iff (ls : List Int) (i : Int) : tne ls i = 0 ↔ tnO ls i := by
  by_cases h : tnO ls i
  · simp [tne, h]
  · simp [tne, h]
theorem kpe_iff (a b : Int) : kpe a b = 0 ↔ alpOk a b = true := by
  by_cases h : alpOk a b = true <;> simp [kpe, h]
theorem delay_f (ls : List Int) (hlen : ls.length ≤ 1000000) (a b i n : Int) :
    PSpec Try.prog 19 [.rs 1 (nums ls), alpE a b, .int .i64 i, .int .i64 n] (· = .tup [.int .i64 (dlV ls a b i n), .int .i64 (dlE ls a b i n)]) := by
  refine .of_code' tab_ok Try.func19 (by rfl) rfl trivial ?_
  have t0 := tne_iff ls i
  have k0 := kpe_iff a b
  by_cases h : dlO ls a b i n
  · obtain ⟨d1, d2⟩ := dl_yes h
    have t1 := t0.2 h.1
    have k1 := k0.2 h.2.1
    obtain ⟨_, _, n0, n1⟩ := h
    conv => whnf
    refine (keep_s _ _).call ?_
    rintro _ rfl
    conv => whnf
    refine (turn_f _ (by first | omega | assumption | decide | simp) _).call ?_
    rintro _ rfl
    conv => whnf
    refine both_f (by simp; omega) ?_
    conv => whnf
    refine both_f (by simp; omega) ?_
    conv => whnf
    refine both_f (by simp; omega) ?_
    conv => whnf
    refine both_f (by simp; omega) ?_
    conv => whnf
    refine (longest_f _ (by first | omega | assumption | decide | simp)).call ?_
    rintro _ rfl
    conv => whnf
    exact tup_ii d1.symm d2.symm
  · obtain ⟨d1, d2⟩ := dl_no h
    have h' : ∀ (p : tne ls i = 0) (q : kpe a b = 0), 0 ≤ n → n ≤ 1048576 → False := fun p q r s => h ⟨t0.1 p, k0.1 q, r, s⟩
    conv => whnf
    refine (keep_s _ _).call ?_
    rintro _ rfl
    conv => whnf
    refine (turn_f _ (by first | omega | assumption | decide | simp) _).call ?_
    rintro _ rfl
    conv => whnf
    refine ⟨fun hh20 => ?_, fun hh20 => ?_⟩
    · simp only [decide_eq_true_eq, decide_eq_false_iff_not] at hh20
      conv => whnf
      exact tup_ii d1.symm d2.symm
    · simp only [decide_eq_true_eq, decide_eq_false_iff_not] at hh20
      conv => whnf
      refine ⟨fun hh21 => ?_, fun hh21 => ?_⟩
      · simp only [decide_eq_true_eq, decide_eq_false_iff_not] at hh21
        conv => whnf
        exact tup_ii d1.symm d2.symm
      · simp only [decide_eq_true_eq, decide_eq_false_iff_not] at hh21
        conv => whnf
        refine ⟨fun hh22 => ?_, fun hh22 => ?_⟩
        · simp only [decide_eq_true_eq, decide_eq_false_iff_not] at hh22
          conv => whnf
          exact tup_ii d1.symm d2.symm
        · simp only [decide_eq_true_eq, decide_eq_false_iff_not] at hh22
          conv => whnf
          refine ⟨fun hh23 => ?_, fun hh23 => ?_⟩
          · simp only [decide_eq_true_eq, decide_eq_false_iff_not] at hh23
            conv => whnf
            exact tup_ii d1.symm d2.symm
          · simp only [decide_eq_true_eq, decide_eq_false_iff_not] at hh23
            conv => whnf
            refine (longest_f _ (by first | omega | assumption | decide | simp)).call ?_
            rintro _ rfl
            conv => whnf
            exact (h' (by omega) (by omega) (by omega) (by omega)).elim
theorem rdelay_f (ls : List Int) (hlen : ls.length ≤ 1000000) (a b i n : Int) :
    PSpec Try.prog 43 [.rs 1 (nums ls), alpE a b, .int .i64 i, .int .i64 n] (· = .tup [.int .i64 (dlV ls a b i n), .int .i64 (dlE ls a b i n)]) := by
  refine .of_code' tab_ok Try.func43 (by rfl) rfl trivial ?_
  have t0 := tne_iff ls i
  have k0 := kpe_iff a b
  by_cases h : dlO ls a b i n
  · obtain ⟨d1, d2⟩ := dl_yes h
    have t1 := t0.2 h.1
    have k1 := k0.2 h.2.1
    obtain ⟨_, _, n0, n1⟩ := h
    conv => whnf
    refine (rturn_f _ (by first | omega | assumption | decide | simp) _).call ?_
    rintro _ rfl
    conv => whnf
    refine (rkeep_s _ _).call ?_
    rintro _ rfl
    conv => whnf
    refine both_f (by simp; omega) ?_
    conv => whnf
    refine both_f (by simp; omega) ?_
    conv => whnf
    refine both_f (by simp; omega) ?_
    conv => whnf
    refine both_f (by simp; omega) ?_
    conv => whnf
    refine (rlongest_f _ (by first | omega | assumption | decide | simp)).call ?_
    rintro _ rfl
    conv => whnf
    exact tup_ii d1.symm d2.symm
  · obtain ⟨d1, d2⟩ := dl_no h
    have h' : ∀ (p : tne ls i = 0) (q : kpe a b = 0), 0 ≤ n → n ≤ 1048576 → False := fun p q r s => h ⟨t0.1 p, k0.1 q, r, s⟩
    conv => whnf
    refine (rturn_f _ (by first | omega | assumption | decide | simp) _).call ?_
    rintro _ rfl
    conv => whnf
    refine (rkeep_s _ _).call ?_
    rintro _ rfl
    conv => whnf
    refine ⟨fun hh20 => ?_, fun hh20 => ?_⟩
    · simp only [decide_eq_true_eq, decide_eq_false_iff_not] at hh20
      conv => whnf
      exact tup_ii d1.symm d2.symm
    · simp only [decide_eq_true_eq, decide_eq_false_iff_not] at hh20
      conv => whnf
      refine ⟨fun hh21 => ?_, fun hh21 => ?_⟩
      · simp only [decide_eq_true_eq, decide_eq_false_iff_not] at hh21
        conv => whnf
        exact tup_ii d1.symm d2.symm
      · simp only [decide_eq_true_eq, decide_eq_false_iff_not] at hh21
        conv => whnf
        refine ⟨fun hh22 => ?_, fun hh22 => ?_⟩
        · simp only [decide_eq_true_eq, decide_eq_false_iff_not] at hh22
          conv => whnf
          exact tup_ii d1.symm d2.symm
        · simp only [decide_eq_true_eq, decide_eq_false_iff_not] at hh22
          conv => whnf
          refine ⟨fun hh23 => ?_, fun hh23 => ?_⟩
          · simp only [decide_eq_true_eq, decide_eq_false_iff_not] at hh23
            conv => whnf
            exact tup_ii d1.symm d2.symm
          · simp only [decide_eq_true_eq, decide_eq_false_iff_not] at hh23
            conv => whnf
            refine (rlongest_f _ (by first | omega | assumption | decide | simp)).call ?_
            rintro _ rfl
            conv => whnf
            exact (h' (by omega) (by omega) (by omega) (by omega)).elim
theorem delays_s (ls : List Int) (hlen : ls.length ≤ 1000000) (a b i n : Int) : PSpec Try.prog 13 [.rs 1 (nums ls), alpE a b, .int .i64 i, .int .i64 n] (· = .bool true) := by
  refine .of_code' tab_ok Try.func13 (by rfl) rfl trivial ?_
  conv => whnf
  refine (delay_f _ (by first | omega | assumption | decide | simp) _ _ _ _).call ?_
  rintro _ rfl
  conv => whnf
  refine (rdelay_f _ (by first | omega | assumption | decide | simp) _ _ _ _).call ?_
  rintro _ rfl
  conv => whnf
  refine both_t (by simp) ?_
  conv => whnf
  simp
theorem boundDelay_s (ls rs : List Int) (p : Int × Int) (i n : Int) :
    PSpec Try.prog 3 [.rs 1 (nums ls), .rs 1 (nums rs), alpE p.1 p.2, .int .i64 i, .int .i64 n] TrueS := by
  refine .of_code' tab_ok Try.func3 (by rfl) rfl trivial ?_
  have hl := nums_len rs
  conv => whnf
  refine CallG.of_code tab_ok Try.func12 (by rfl) rfl ?_
  conv => whnf
  refine LoopG.inv tab_ok 53 (fun x : { x : Nat × Int // x.1 ≤ 6 ∧ 0 ≤ x.2 ∧ x.2 ≤ 19 * x.1 } => [(1, .rs 1 (nums rs)), (3, .int .i64 i), (4, .int .i64 n), (7, .ptr 0 0), (11, .ptr 1 0), (12, .int .i64 (x.1.1 : Int))])
    (fun x => [.fix 24 [.int .i64 p.1, .int .i64 p.2], chs ls x.1.2]) (fun x => 6 - x.1.1) ⟨(0, 0), by decide⟩ (.of [some 0, some 1] (by rfl) ?_) ?_
  · conv => whnf
    refine ⟨by rfl, ?_⟩
    conv => whnf
    refine ⟨by rfl, ?_⟩
    conv => whnf
    refine ⟨by rfl, ?_⟩
    conv => whnf
    refine ⟨by rfl, ?_⟩
    conv => whnf
    refine ⟨by rfl, ?_⟩
    conv => whnf
    refine ⟨by rfl, ?_⟩
    conv => whnf
    refine ⟨by rfl, ?_⟩
    conv => whnf
    refine ⟨by rfl, ?_⟩
    conv => whnf
    exact trivial
  · intro x
    obtain ⟨hx1, hx2, hx3⟩ := x.2
    conv => whnf
    refine ⟨fun hb => ?_, fun hb => ?_⟩
    · have hb : (x.1.1 : Int) < 6 := by simpa using hb
      have r1 := wxa_rng ls x.1.2
      have r2 := wxa_rng ls (wxa ls x.1.2 + 1 + 1 + 1)
      have q1 : (wxl ls x.1.2).length ≤ 1000000 := by have := wxl_len ls x.1.2; omega
      have q2 : (wxl ls (wxa ls x.1.2 + 1 + 1 + 1)).length ≤ 1000000 := by have := wxl_len ls (wxa ls x.1.2 + 1 + 1 + 1); omega
      conv => whnf
      refine DrawG.of mixed tab_ok ?_
      conv => whnf
      refine (weightsx_s _ _ (by first | omega | assumption | decide | simp) (by first | omega | assumption | decide | simp)).calld [1] (by decide) rfl trivial (And.intro rfl trivial) ?_
      conv => whnf
      refine (alpha_s _ _ (by first | omega | assumption | decide | simp) (by first | omega | assumption | decide | simp)).calld [1] (by decide) rfl trivial (And.intro rfl trivial) ?_
      conv => whnf
      refine (next_s _ _ _ (by first | omega | assumption | decide | simp) (by first | omega | assumption | decide | simp) (by first | omega | assumption | decide | simp)).calld [1] (by decide) rfl (And.intro rfl trivial) (And.intro rfl trivial) ?_
      conv => whnf
      refine (next_s _ _ _ (by first | omega | assumption | decide | simp) (by first | omega | assumption | decide | simp) (by first | omega | assumption | decide | simp)).calld [1] (by decide) rfl (And.intro rfl trivial) (And.intro rfl trivial) ?_
      conv => whnf
      refine ⟨by exact ⟨nxt_lo _ _ _, nxt_hi _ _ _ (by omega)⟩, ?_⟩
      conv => whnf
      refine ⟨_, lit_get (l := [0, 1, 3, 1048576, 1048577, -1]) (nxt_lo _ _ _) (nxt_hi _ _ _ (by decide)), ?_⟩
      conv => whnf
      refine (delays_s _ (by first | omega | assumption | decide | simp) _ _ _ _).calld ?_
      conv => whnf
      refine both_f rfl ?_
      conv => whnf
      refine (weightsx_s _ _ (by first | omega | assumption | decide | simp) (by first | omega | assumption | decide | simp)).calld [1] (by decide) rfl trivial (And.intro rfl trivial) ?_
      conv => whnf
      refine (delays_s _ (by first | omega | assumption | decide | simp) _ _ _ _).calld ?_
      conv => whnf
      refine ⟨by kernel_rfl, ?_⟩
      conv => whnf
      refine both_f rfl ?_
      conv => whnf
      refine ⟨⟨(x.1.1 + 1, wxa ls (wxa ls x.1.2 + 1 + 1 + 1)), by show x.1.1 + 1 ≤ 6; omega, by show 0 ≤ wxa ls (wxa ls x.1.2 + 1 + 1 + 1); omega, by show wxa ls (wxa ls x.1.2 + 1 + 1 + 1) ≤ 19 * ((x.1.1 + 1 : Nat) : Int); omega⟩, by show 6 - (x.1.1 + 1) < 6 - x.1.1; omega, .of [some 0, some 1] (by rfl) ?_⟩
      conv => whnf
      refine ⟨by rfl, ?_⟩
      conv => whnf
      refine ⟨by rfl, ?_⟩
      conv => whnf
      refine ⟨by rfl, ?_⟩
      conv => whnf
      refine ⟨by exact (w64 _ (by omega) (by omega)).trans (by simp), ?_⟩
      conv => whnf
      refine ⟨by rfl, ?_⟩
      conv => whnf
      refine ⟨by rfl, ?_⟩
      conv => whnf
      refine ⟨by rfl, ?_⟩
      conv => whnf
      refine ⟨by rfl, ?_⟩
      conv => whnf
      exact trivial
    · conv => whnf
      refine .same ?_
      conv => whnf
      refine ⟨fun hc => ?_, fun hc => ?_⟩
      · conv => whnf
        refine (awake26_s).call ?_
        rintro _ rfl
        conv => whnf
      · have hc : (rs.length : Int) ≤ 100 := by rw [hl] at hc; simpa using hc
        conv => whnf
        refine (delays_s _ (by first | omega | assumption | decide | simp) _ _ _ _).call ?_
        rintro _ rfl
        conv => whnf
        refine both_t rfl ?_
        conv => whnf
        refine (awake26_s).call ?_
        rintro _ rfl
        conv => whnf
end Go.Proofs.Ythlomoacacebeae

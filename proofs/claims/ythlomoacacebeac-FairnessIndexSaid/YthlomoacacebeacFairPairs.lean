/- The statement FairnessPairs as a contract. -/
import Derived.Test.YthlomoacacebeacRefFair
namespace Go.Proofs.Ythlomoacacebeac
open Go.Sx
set_option linter.unusedSimpArgs false
set_option linter.unusedVariables false
def smk (ls : List Int) (a : Int) : Int := nxt ls (a + 1 + 1 + 1) 20
def smw (ls : List Int) (a : Int) : Int := if smk ls a = 0 then [0, 17].getD (nxt ls (a + 1 + 1 + 1 + 1) 2).toNat 0 else wex ls a
def smb (ls : List Int) (a : Int) : Int := if smk ls a = 1 then [-1, 2147483649].getD (nxt ls (a + 1 + 1 + 1 + 1) 2).toNat 0 else [0, 100, 200, 2147483648, 12345, 1500].getD (nxt ls (a + 1) 6).toNat 0
def smm (ls : List Int) (a : Int) : Int := if smk ls a = 2 then [-1, 4097].getD (nxt ls (a + 1 + 1 + 1 + 1) 2).toNat 0 else [0, 1, 100, 4096].getD (nxt ls (a + 1 + 1) 4).toNat 0
def sma (ls : List Int) (a : Int) : Int := if smk ls a = 0 ∨ smk ls a = 1 ∨ smk ls a = 2 then a + 1 + 1 + 1 + 1 + 1 else a + 1 + 1 + 1 + 1
theorem sma_rng (ls : List Int) (a : Int) : a ≤ sma ls a ∧ sma ls a ≤ a + 5 := by unfold sma; split <;> omega
theorem samplex_s (ls : List Int) (at' : Int) (h0 : 0 ≤ at') (h1 : at' < 9223372036854775000) :
    OSpec Try.prog 25 [.ptr 0 0] [chs ls at'] fun s ho => s = smpE (smw ls at') (smb ls at') (smm ls at') ∧ ho = [chs ls (sma ls at')] := by
  refine .of_code tab_ok Try.func25 (by rfl) rfl trivial ?_
  have fin1 : ∀ {w b m : Int}, w = smw ls at' → b = smb ls at' → m = smm ls at' → smpE w b m = smpE (smw ls at') (smb ls at') (smm ls at') := by
    rintro w b m rfl rfl rfl; rfl
  have fin2 : ∀ {a2 : Int}, a2 = sma ls at' → [chs ls a2] = [chs ls (sma ls at')] := by
    rintro a2 rfl; rfl
  conv => whnf
  refine DrawG.of mixed tab_ok ?_
  conv => whnf
  refine (weight_s _ _ (by first | omega | assumption | decide | simp) (by first | omega | assumption | decide | simp)).calld [0] (by decide) rfl trivial (And.intro rfl trivial) ?_
  conv => whnf
  refine (next_s _ _ _ (by first | omega | assumption | decide | simp) (by first | omega | assumption | decide | simp) (by first | omega | assumption | decide | simp)).calld [0] (by decide) rfl (And.intro rfl trivial) (And.intro rfl trivial) ?_
  conv => whnf
  refine ⟨by exact ⟨nxt_lo _ _ _, nxt_hi _ _ _ (by omega)⟩, ?_⟩
  conv => whnf
  refine ⟨_, lit_get (l := [0, 100, 200, 2147483648, 12345, 1500]) (nxt_lo _ _ _) (nxt_hi _ _ _ (by decide)), ?_⟩
  conv => whnf
  refine (next_s _ _ _ (by first | omega | assumption | decide | simp) (by first | omega | assumption | decide | simp) (by first | omega | assumption | decide | simp)).calld [0] (by decide) rfl (And.intro rfl trivial) (And.intro rfl trivial) ?_
  conv => whnf
  refine ⟨by exact ⟨nxt_lo _ _ _, nxt_hi _ _ _ (by omega)⟩, ?_⟩
  conv => whnf
  refine ⟨_, lit_get (l := [0, 1, 100, 4096]) (nxt_lo _ _ _) (nxt_hi _ _ _ (by decide)), ?_⟩
  conv => whnf
  refine ⟨by kernel_rfl, ?_⟩
  conv => whnf
  refine (next_s _ _ _ (by first | omega | assumption | decide | simp) (by first | omega | assumption | decide | simp) (by first | omega | assumption | decide | simp)).call [0] (by decide) (And.intro rfl trivial) (And.intro rfl trivial) ?_
  rintro _ _ ⟨rfl, rfl⟩
  conv => whnf
  refine ⟨fun hh42 => ?_, fun hh42 => ?_⟩
  · simp only [decide_eq_true_eq, decide_eq_false_iff_not] at hh42
    conv => whnf
    refine (next_s _ _ _ (by first | omega | assumption | decide | simp) (by first | omega | assumption | decide | simp) (by first | omega | assumption | decide | simp)).call [0] (by decide) (And.intro rfl trivial) (And.intro rfl trivial) ?_
    rintro _ _ ⟨rfl, rfl⟩
    conv => whnf
    refine ⟨by exact ⟨nxt_lo _ _ _, nxt_hi _ _ _ (by omega)⟩, ?_⟩
    conv => whnf
    refine ⟨_, lit_get (l := [0, 17]) (nxt_lo _ _ _) (nxt_hi _ _ _ (by decide)), ?_⟩
    conv => whnf
    refine ⟨by exact fin1 (by simp only [smw, smk]; simp [*]) (by simp only [smb, smk]; simp [*]) (by simp only [smm, smk]; simp [*]), ?_⟩
    conv => whnf
    exact fin2 (by simp only [sma, smk]; simp [*])
  · simp only [decide_eq_true_eq, decide_eq_false_iff_not] at hh42
    conv => whnf
    refine ⟨fun hh54 => ?_, fun hh54 => ?_⟩
    · simp only [decide_eq_true_eq, decide_eq_false_iff_not] at hh54
      conv => whnf
      refine (next_s _ _ _ (by first | omega | assumption | decide | simp) (by first | omega | assumption | decide | simp) (by first | omega | assumption | decide | simp)).call [0] (by decide) (And.intro rfl trivial) (And.intro rfl trivial) ?_
      rintro _ _ ⟨rfl, rfl⟩
      conv => whnf
      refine ⟨by exact ⟨nxt_lo _ _ _, nxt_hi _ _ _ (by omega)⟩, ?_⟩
      conv => whnf
      refine ⟨_, lit_get (l := [-1, 2147483649]) (nxt_lo _ _ _) (nxt_hi _ _ _ (by decide)), ?_⟩
      conv => whnf
      refine ⟨by exact fin1 (by simp only [smw, smk]; simp [*]) (by simp only [smb, smk]; simp [*]) (by simp only [smm, smk]; simp [*]), ?_⟩
      conv => whnf
      exact fin2 (by simp only [sma, smk]; simp [*])
    · simp only [decide_eq_true_eq, decide_eq_false_iff_not] at hh54
      conv => whnf
      refine ⟨fun hh66 => ?_, fun hh66 => ?_⟩
      · simp only [decide_eq_true_eq, decide_eq_false_iff_not] at hh66
        conv => whnf
        refine (next_s _ _ _ (by first | omega | assumption | decide | simp) (by first | omega | assumption | decide | simp) (by first | omega | assumption | decide | simp)).call [0] (by decide) (And.intro rfl trivial) (And.intro rfl trivial) ?_
        rintro _ _ ⟨rfl, rfl⟩
        conv => whnf
        refine ⟨by exact ⟨nxt_lo _ _ _, nxt_hi _ _ _ (by omega)⟩, ?_⟩
        conv => whnf
        refine ⟨_, lit_get (l := [-1, 4097]) (nxt_lo _ _ _) (nxt_hi _ _ _ (by decide)), ?_⟩
        conv => whnf
        refine ⟨by exact fin1 (by simp only [smw, smk]; simp [*]) (by simp only [smb, smk]; simp [*]) (by simp only [smm, smk]; simp [*]), ?_⟩
        conv => whnf
        exact fin2 (by simp only [sma, smk]; simp [*])
      · simp only [decide_eq_true_eq, decide_eq_false_iff_not] at hh66
        conv => whnf
        refine ⟨by exact fin1 (by simp only [smw, smk]; simp [*]) (by simp only [smb, smk]; simp [*]) (by simp only [smm, smk]; simp [*]), ?_⟩
        conv => whnf
        exact fin2 (by simp only [sma, smk]; simp [*])
theorem fairnessPairs_s (ls : List Int) (w b m x c n : Int) : PSpec Try.prog 4 [.rs 1 (nums ls), smpE w b m, smpE x c n] TrueS := by
  refine .of_code' tab_ok Try.func4 (by rfl) rfl trivial ?_
  conv => whnf
  refine CallG.of_code tab_ok Try.func15 (by rfl) rfl ?_
  refine LoopG.inv tab_ok 34 (fun y : { y : Nat × Int // y.1 ≤ 6 ∧ 0 ≤ y.2 ∧ y.2 ≤ 15 * y.1 } => [(4, .ptr 0 0), (5, .ptr 1 0), (6, .ff), (7, .ptr 2 0), (8, .int .i64 (y.1.1 : Int))])
    (fun y => [.fix 41 [.int .i64 w, .int .i64 b, .int .i64 m], .fix 41 [.int .i64 x, .int .i64 c, .int .i64 n], chs ls y.1.2]) (fun y => 6 - y.1.1) ⟨(0, 0), by decide⟩ (.of [some 0, some 1, some 2] (by rfl) ?_) ?_
  · conv => whnf
    refine ⟨by rfl, ?_⟩
    conv => whnf
    refine ⟨by rfl, ?_⟩
    conv => whnf
    refine ⟨by rfl, ?_⟩
    conv => whnf
    refine ⟨by rfl, ?_⟩
    conv => whnf
    refine ⟨by rfl, ?_⟩
    conv => whnf
    refine ⟨by rfl, ?_⟩
    conv => whnf
    refine ⟨by rfl, ?_⟩
    conv => whnf
    refine ⟨by rfl, ?_⟩
    conv => whnf
    refine ⟨by rfl, ?_⟩
    conv => whnf
    exact trivial
  · intro y
    obtain ⟨hy1, hy2, hy3⟩ := y.2
    have s1 := sma_rng ls y.1.2
    have s2 := sma_rng ls (sma ls y.1.2)
    have s3 := sma_rng ls (sma ls (sma ls y.1.2))
    conv => whnf
    refine ⟨fun hb => ?_, fun hb => ?_⟩
    · have hb : (y.1.1 : Int) < 6 := by simpa using hb
      conv => whnf
      refine DrawG.of mixed tab_ok ?_
      conv => whnf
      refine (samplex_s _ _ (by first | omega | assumption | decide | simp) (by first | omega | assumption | decide | simp)).calld [2] (by decide) rfl trivial (And.intro rfl trivial) ?_
      conv => whnf
      refine (samplex_s _ _ (by first | omega | assumption | decide | simp) (by first | omega | assumption | decide | simp)).calld [2] (by decide) rfl trivial (And.intro rfl trivial) ?_
      conv => whnf
      refine (pairs14_s _ _ _ _ _ _).calld ?_
      conv => whnf
      refine both_f rfl ?_
      conv => whnf
      refine (samplex_s _ _ (by first | omega | assumption | decide | simp) (by first | omega | assumption | decide | simp)).calld [2] (by decide) rfl trivial (And.intro rfl trivial) ?_
      conv => whnf
      refine (pairs14_s _ _ _ _ _ _).calld ?_
      conv => whnf
      refine ⟨by kernel_rfl, ?_⟩
      conv => whnf
      refine both_f rfl ?_
      conv => whnf
      refine ⟨⟨(y.1.1 + 1, sma ls (sma ls (sma ls y.1.2))), by show y.1.1 + 1 ≤ 6; omega, by show 0 ≤ sma ls (sma ls (sma ls y.1.2)); omega, by show sma ls (sma ls (sma ls y.1.2)) ≤ 15 * ((y.1.1 + 1 : Nat) : Int); omega⟩, by show 6 - (y.1.1 + 1) < 6 - y.1.1; omega, .of [some 0, some 1, some 2] (by rfl) ?_⟩
      conv => whnf
      refine ⟨by exact (w64 _ (by omega) (by omega)).trans (by simp), ?_⟩
      conv => whnf
      refine ⟨by rfl, ?_⟩
      conv => whnf
      refine ⟨by rfl, ?_⟩
      conv => whnf
      refine ⟨by rfl, ?_⟩
      conv => whnf
      refine ⟨by rfl, ?_⟩
      conv => whnf
      refine ⟨by rfl, ?_⟩
      conv => whnf
      refine ⟨by rfl, ?_⟩
      conv => whnf
      refine ⟨by rfl, ?_⟩
      conv => whnf
      refine ⟨by rfl, ?_⟩
      conv => whnf
      exact trivial
    · conv => whnf
      refine .same ?_
      conv => whnf
      refine (pairs14_s _ _ _ _ _ _).call ?_
      rintro _ rfl
      conv => whnf
      refine both_t rfl ?_
      conv => whnf
      refine (awake14_s).call ?_
      rintro _ rfl
      conv => whnf
theorem fairnessPairs_t (ls : List Int) (s t : Int × Int × Int) : PSpec Try.prog 4 [.rs 1 (nums ls), smpE s.1 s.2.1 s.2.2, smpE t.1 t.2.1 t.2.2] TrueS := fairnessPairs_s ls _ _ _ _ _ _
end Go.Proofs.Ythlomoacacebeac

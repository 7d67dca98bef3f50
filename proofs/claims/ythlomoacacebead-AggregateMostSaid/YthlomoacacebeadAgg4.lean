/- The example of chapter 20; contracts of its statements. -/
import Derived.Test.YthlomoacacebeadAgg3
namespace Go.Proofs.Ythlomoacacebead
open Go.Sx
set_option linter.unusedSimpArgs false
set_option linter.unusedVariables false
theorem build_aw : PSpec Try.prog 52 [.rs 1 (nums [100, 200, 300]), cpE 2 1000 100000, rtE 8000 0] (· = .tup [.int .i64 2, .int .i64 304, .int .i64 0]) := by
  have hn : lnO [100, 200, 300] := by
    intro i hi
    match i with
    | 0 => decide
    | 1 => decide
    | 2 => decide
    | i + 3 => simp at hi; omega
  have hO : bdO [100, 200, 300] 2 1000 100000 8000 0 := ⟨by decide, by decide, by decide, hn⟩
  have e := bdR_stop hn (p := 2) (b := 1000) (t := 100000) (k := 8000) (o := 0) (by decide) (by decide) (n := 2) (by decide) (by decide) (.inr ⟨by decide, by decide, by decide, by decide, by decide⟩) (.inl (by decide))
  have := build_s [100, 200, 300] (by decide) 2 1000 100000 8000 0
  obtain ⟨y1, y2, y3⟩ := bd_yes hO
  rw [y1, y2, y3, bdT, e] at this
  exact this
theorem awake20_s : PSpec Try.prog 48 [] (· = .bool true) := by
  refine .of_code' tab_ok Try.func48 (by rfl) rfl trivial ?_
  conv => whnf
  refine PSpec.lend build_aw ?_ ?_
  · conv => whnf
    refine ⟨rfl, ?_⟩
    conv => whnf
    refine ⟨rfl, ?_⟩
    conv => whnf
    refine ⟨rfl, ?_⟩
    conv => whnf
    exact trivial
  rintro _ rfl
  conv => whnf
  refine both_t rfl ?_
  conv => whnf
  refine both_t rfl ?_
  conv => whnf
  rfl
theorem aggregateSize_s (ls rs : List Int) (c : Int × Int × Int) : PSpec Try.prog 9 [.rs 1 (nums ls), .rs 1 (nums rs), cpE c.1 c.2.1 c.2.2] TrueS := by
  refine .of_code' tab_ok Try.func9 (by rfl) rfl trivial ?_
  have hl := nums_len rs
  conv => whnf
  refine CallG.of_code tab_ok Try.func15 (by rfl) rfl ?_
  conv => whnf
  refine LoopG.inv tab_ok 52 (fun x : { x : Nat × Int // x.1 ≤ 5 ∧ 0 ≤ x.2 ∧ x.2 ≤ 60 * x.1 } => [(1, .rs 1 (nums rs)), (5, .ptr 0 0), (7, .ptr 1 0), (8, .int .i64 (x.1.1 : Int))])
    (fun x => [.fix 68 [.int .i64 c.1, .int .i64 c.2.1, .int .i64 c.2.2], chs ls x.1.2]) (fun x => 5 - x.1.1) ⟨(0, 0), by decide⟩ (.of [some 0, some 1] (by rfl) ?_) ?_
  · conv => whnf
    refine ⟨by rfl, ?_⟩
    conv => whnf
    refine ⟨by rfl, ?_⟩
    conv => whnf
    refine ⟨by rfl, ?_⟩
    conv => whnf
    refine ⟨by rfl, ?_⟩
    conv => whnf
    refine ⟨by rfl, ?_⟩
    conv => whnf
    refine ⟨by rfl, ?_⟩
    conv => whnf
    refine ⟨by rfl, ?_⟩
    conv => whnf
    exact trivial
  · intro x
    obtain ⟨hx1, hx2, hx3⟩ := x.2
    conv => whnf
    refine ⟨fun hb => ?_, fun hb => ?_⟩
    · have hb : (x.1.1 : Int) < 5 := by simpa using hb
      have r1 := cya_rng ls x.1.2
      have r2 := lna_rng ls (cya ls x.1.2) 40 (by omega)
      have r3 := lna_rng ls (lna ls (cya ls x.1.2) 40) 4 (by omega)
      have q1 : (lny ls (cya ls x.1.2) 40).length ≤ 1000000 := by have := lny_len ls (cya ls x.1.2) 40; have := lnk_le ls (cya ls x.1.2) 40 (by omega); omega
      have q2 : (lny ls (lna ls (cya ls x.1.2) 40) 4).length ≤ 1000000 := by have := lny_len ls (lna ls (cya ls x.1.2) 40) 4; have := lnk_le ls (lna ls (cya ls x.1.2) 40) 4 (by omega); omega
      conv => whnf
      refine (lcaps_s _ _ (by first | omega | assumption | decide | simp) (by first | omega | assumption | decide | simp)).call [1] (by decide) trivial (And.intro rfl trivial) ?_
      rintro _ _ ⟨rfl, rfl⟩
      conv => whnf
      refine DrawG.of mixed tab_ok ?_
      conv => whnf
      refine (lengths_s _ _ _ (by first | omega | assumption | decide | simp) (by first | omega | assumption | decide | simp) (by first | omega | assumption | decide | simp) (by first | omega | assumption | decide | simp)).calld [1] (by decide) rfl (And.intro rfl trivial) (And.intro rfl trivial) ?_
      conv => whnf
      refine (lsize_s _ (by first | omega | assumption | decide | simp)).calld ?_
      conv => whnf
      refine both_f rfl ?_
      conv => whnf
      refine (lengths_s _ _ _ (by first | omega | assumption | decide | simp) (by first | omega | assumption | decide | simp) (by first | omega | assumption | decide | simp) (by first | omega | assumption | decide | simp)).calld [1] (by decide) rfl (And.intro rfl trivial) (And.intro rfl trivial) ?_
      conv => whnf
      refine (lsize_s _ (by first | omega | assumption | decide | simp)).calld ?_
      conv => whnf
      refine both_f rfl ?_
      conv => whnf
      refine (gvalid_s _ _ _).calld ?_
      conv => whnf
      refine (rcaps_s _ _ _).calld ?_
      conv => whnf
      refine ⟨by kernel_rfl, ?_⟩
      conv => whnf
      refine both_f (by simp) ?_
      conv => whnf
      refine ⟨⟨(x.1.1 + 1, lna ls (lna ls (cya ls x.1.2) 40) 4), by show x.1.1 + 1 ≤ 5; omega, by show 0 ≤ lna ls (lna ls (cya ls x.1.2) 40) 4; omega, by show lna ls (lna ls (cya ls x.1.2) 40) 4 ≤ 60 * ((x.1.1 + 1 : Nat) : Int); omega⟩, by show 5 - (x.1.1 + 1) < 5 - x.1.1; omega, .of [some 0, some 1] (by rfl) ?_⟩
      conv => whnf
      refine ⟨by rfl, ?_⟩
      conv => whnf
      refine ⟨by exact (w64 _ (by omega) (by omega)).trans (by simp), ?_⟩
      conv => whnf
      refine ⟨by rfl, ?_⟩
      conv => whnf
      refine ⟨by rfl, ?_⟩
      conv => whnf
      refine ⟨by rfl, ?_⟩
      conv => whnf
      refine ⟨by rfl, ?_⟩
      conv => whnf
      refine ⟨by rfl, ?_⟩
      conv => whnf
      exact trivial
    · conv => whnf
      refine .same ?_
      conv => whnf
      refine DrawG.of mixed tab_ok ?_
      conv => whnf
      refine ⟨fun hc => ?_, fun hc => ?_⟩
      · conv => whnf
        refine (awake20_s).calld ?_
        conv => whnf
        refine ⟨by kernel_rfl, ?_⟩
        conv => whnf
      · have hc : (rs.length : Int) ≤ 200 := by rw [hl] at hc; simpa using hc
        conv => whnf
        refine (lsize_s _ (by first | omega | assumption | decide | simp)).calld ?_
        conv => whnf
        refine both_t rfl ?_
        conv => whnf
        refine (gvalid_s _ _ _).calld ?_
        conv => whnf
        refine (rcaps_s _ _ _).calld ?_
        conv => whnf
        refine both_t (by simp) ?_
        conv => whnf
        refine (awake20_s).calld ?_
        conv => whnf
        refine ⟨by kernel_rfl, ?_⟩
        conv => whnf
theorem aggregateBuild_s (ls rs : List Int) (c : Int × Int × Int) (r : Int × Int) : PSpec Try.prog 10 [.rs 1 (nums ls), .rs 1 (nums rs), cpE c.1 c.2.1 c.2.2, rtE r.1 r.2] TrueS := by
  refine .of_code' tab_ok Try.func10 (by rfl) rfl trivial ?_
  have hl := nums_len rs
  conv => whnf
  refine CallG.of_code tab_ok Try.func15 (by rfl) rfl ?_
  conv => whnf
  refine LoopG.inv tab_ok 60 (fun x : { x : Nat × Int // x.1 ≤ 5 ∧ 0 ≤ x.2 ∧ x.2 ≤ 170 * x.1 } => [(1, .rs 1 (nums rs)), (6, .ptr 0 0), (7, .ptr 1 0), (9, .ptr 2 0), (10, .int .i64 (x.1.1 : Int))])
    (fun x => [.fix 68 [.int .i64 c.1, .int .i64 c.2.1, .int .i64 c.2.2], .fix 52 [.int .i64 r.1, .int .i64 r.2], chs ls x.1.2]) (fun x => 5 - x.1.1) ⟨(0, 0), by decide⟩ (.of [some 0, some 1, some 2] (by rfl) ?_) ?_
  · conv => whnf
    refine ⟨by rfl, ?_⟩
    conv => whnf
    refine ⟨by rfl, ?_⟩
    conv => whnf
    refine ⟨by rfl, ?_⟩
    conv => whnf
    refine ⟨by rfl, ?_⟩
    conv => whnf
    refine ⟨by rfl, ?_⟩
    conv => whnf
    refine ⟨by rfl, ?_⟩
    conv => whnf
    refine ⟨by rfl, ?_⟩
    conv => whnf
    refine ⟨by rfl, ?_⟩
    conv => whnf
    refine ⟨by rfl, ?_⟩
    conv => whnf
    exact trivial
  · intro x
    obtain ⟨hx1, hx2, hx3⟩ := x.2
    conv => whnf
    refine ⟨fun hb => ?_, fun hb => ?_⟩
    · have hb : (x.1.1 : Int) < 5 := by simpa using hb
      have r2 := lna_rng ls (x.1.2 + 1 + 1) 8 (by omega)
      have r1 := cya_rng ls (lna ls (x.1.2 + 1 + 1) 8)
      have r3 := lna_rng ls (cya ls (lna ls (x.1.2 + 1 + 1) 8)) 140 (by omega)
      have r4 := cya_rng ls (lna ls (cya ls (lna ls (x.1.2 + 1 + 1) 8)) 140)
      have q1 : (lny ls (x.1.2 + 1 + 1) 8).length ≤ 1000000 := by have := lny_len ls (x.1.2 + 1 + 1) 8; have := lnk_le ls (x.1.2 + 1 + 1) 8 (by omega); omega
      have q2 : (lny ls (cya ls (lna ls (x.1.2 + 1 + 1) 8)) 140).length ≤ 1000000 := by have := lny_len ls (cya ls (lna ls (x.1.2 + 1 + 1) 8)) 140; have := lnk_le ls (cya ls (lna ls (x.1.2 + 1 + 1) 8)) 140 (by omega); omega
      conv => whnf
      refine (grate_s _ _ (by first | omega | assumption | decide | simp) (by first | omega | assumption | decide | simp)).call [2] (by decide) trivial (And.intro rfl trivial) ?_
      rintro _ _ ⟨rfl, rfl⟩
      conv => whnf
      refine (next_s _ _ _ (by first | omega | assumption | decide | simp) (by first | omega | assumption | decide | simp) (by first | omega | assumption | decide | simp)).call [2] (by decide) (And.intro rfl trivial) (And.intro rfl trivial) ?_
      rintro _ _ ⟨rfl, rfl⟩
      conv => whnf
      refine ⟨fun hh20 => ?_, fun hh20 => ?_⟩
      · simp only [decide_eq_true_eq, decide_eq_false_iff_not] at hh20
        conv => whnf
        refine DrawG.of mixed tab_ok ?_
        conv => whnf
        refine (lengths_s _ _ _ (by first | omega | assumption | decide | simp) (by first | omega | assumption | decide | simp) (by first | omega | assumption | decide | simp) (by first | omega | assumption | decide | simp)).calld [2] (by decide) rfl (And.intro rfl trivial) (And.intro rfl trivial) ?_
        conv => whnf
        refine (lcaps_s _ _ (by first | omega | assumption | decide | simp) (by first | omega | assumption | decide | simp)).calld [2] (by decide) rfl trivial (And.intro rfl trivial) ?_
        conv => whnf
        refine (builds_s _ (by first | omega | assumption | decide | simp) _ _ _ _ _).calld ?_
        conv => whnf
        refine both_f rfl ?_
        conv => whnf
        refine (lengths_s _ _ _ (by first | omega | assumption | decide | simp) (by first | omega | assumption | decide | simp) (by first | omega | assumption | decide | simp) (by first | omega | assumption | decide | simp)).calld [2] (by decide) rfl (And.intro rfl trivial) (And.intro rfl trivial) ?_
        conv => whnf
        refine (lcaps_s _ _ (by first | omega | assumption | decide | simp) (by first | omega | assumption | decide | simp)).calld [2] (by decide) rfl trivial (And.intro rfl trivial) ?_
        conv => whnf
        refine (builds_s _ (by first | omega | assumption | decide | simp) _ _ _ _ _).calld ?_
        conv => whnf
        refine ⟨by kernel_rfl, ?_⟩
        conv => whnf
        refine both_f rfl ?_
        conv => whnf
        refine ⟨⟨(x.1.1 + 1, cya ls (lna ls (cya ls (lna ls (x.1.2 + 1 + 1) 8)) 140)), by show x.1.1 + 1 ≤ 5; omega, by show 0 ≤ cya ls (lna ls (cya ls (lna ls (x.1.2 + 1 + 1) 8)) 140); omega, by show cya ls (lna ls (cya ls (lna ls (x.1.2 + 1 + 1) 8)) 140) ≤ 170 * ((x.1.1 + 1 : Nat) : Int); omega⟩, by show 5 - (x.1.1 + 1) < 5 - x.1.1; omega, .of [some 0, some 1, some 2] (by rfl) ?_⟩
        conv => whnf
        refine ⟨by rfl, ?_⟩
        conv => whnf
        refine ⟨by exact (w64 _ (by omega) (by omega)).trans (by simp), ?_⟩
        conv => whnf
        refine ⟨by rfl, ?_⟩
        conv => whnf
        refine ⟨by rfl, ?_⟩
        conv => whnf
        refine ⟨by rfl, ?_⟩
        conv => whnf
        refine ⟨by rfl, ?_⟩
        conv => whnf
        refine ⟨by rfl, ?_⟩
        conv => whnf
        refine ⟨by rfl, ?_⟩
        conv => whnf
        refine ⟨by rfl, ?_⟩
        conv => whnf
        exact trivial
      · simp only [decide_eq_true_eq, decide_eq_false_iff_not] at hh20
        conv => whnf
        refine DrawG.of mixed tab_ok ?_
        conv => whnf
        refine (lengths_s _ _ _ (by first | omega | assumption | decide | simp) (by first | omega | assumption | decide | simp) (by first | omega | assumption | decide | simp) (by first | omega | assumption | decide | simp)).calld [2] (by decide) rfl (And.intro rfl trivial) (And.intro rfl trivial) ?_
        conv => whnf
        refine (lcaps_s _ _ (by first | omega | assumption | decide | simp) (by first | omega | assumption | decide | simp)).calld [2] (by decide) rfl trivial (And.intro rfl trivial) ?_
        conv => whnf
        refine (builds_s _ (by first | omega | assumption | decide | simp) _ _ _ _ _).calld ?_
        conv => whnf
        refine both_f rfl ?_
        conv => whnf
        refine (lengths_s _ _ _ (by first | omega | assumption | decide | simp) (by first | omega | assumption | decide | simp) (by first | omega | assumption | decide | simp) (by first | omega | assumption | decide | simp)).calld [2] (by decide) rfl (And.intro rfl trivial) (And.intro rfl trivial) ?_
        conv => whnf
        refine (lcaps_s _ _ (by first | omega | assumption | decide | simp) (by first | omega | assumption | decide | simp)).calld [2] (by decide) rfl trivial (And.intro rfl trivial) ?_
        conv => whnf
        refine (builds_s _ (by first | omega | assumption | decide | simp) _ _ _ _ _).calld ?_
        conv => whnf
        refine ⟨by kernel_rfl, ?_⟩
        conv => whnf
        refine both_f rfl ?_
        conv => whnf
        refine ⟨⟨(x.1.1 + 1, cya ls (lna ls (cya ls (lna ls (x.1.2 + 1 + 1) 8)) 140)), by show x.1.1 + 1 ≤ 5; omega, by show 0 ≤ cya ls (lna ls (cya ls (lna ls (x.1.2 + 1 + 1) 8)) 140); omega, by show cya ls (lna ls (cya ls (lna ls (x.1.2 + 1 + 1) 8)) 140) ≤ 170 * ((x.1.1 + 1 : Nat) : Int); omega⟩, by show 5 - (x.1.1 + 1) < 5 - x.1.1; omega, .of [some 0, some 1, some 2] (by rfl) ?_⟩
        conv => whnf
        refine ⟨by rfl, ?_⟩
        conv => whnf
        refine ⟨by exact (w64 _ (by omega) (by omega)).trans (by simp), ?_⟩
        conv => whnf
        refine ⟨by rfl, ?_⟩
        conv => whnf
        refine ⟨by rfl, ?_⟩
        conv => whnf
        refine ⟨by rfl, ?_⟩
        conv => whnf
        refine ⟨by rfl, ?_⟩
        conv => whnf
        refine ⟨by rfl, ?_⟩
        conv => whnf
        refine ⟨by rfl, ?_⟩
        conv => whnf
        refine ⟨by rfl, ?_⟩
        conv => whnf
        exact trivial
    · conv => whnf
      refine .same ?_
      conv => whnf
      refine ⟨fun hc => ?_, fun hc => ?_⟩
      · conv => whnf
        refine (awake20_s).call ?_
        rintro _ rfl
        conv => whnf
      · have hc : (rs.length : Int) ≤ 200 := by rw [hl] at hc; simpa using hc
        conv => whnf
        refine (builds_s _ (by first | omega | assumption | decide | simp) _ _ _ _ _).call ?_
        rintro _ rfl
        conv => whnf
        refine both_t rfl ?_
        conv => whnf
        refine (gcaps_s _ _ (by first | omega | assumption | decide | simp) (by first | omega | assumption | decide | simp)).call [2] (by decide) trivial (And.intro rfl trivial) ?_
        rintro _ _ ⟨rfl, rfl⟩
        conv => whnf
        refine (grate_s _ _ (by first | omega | assumption | decide | simp) (by first | omega | assumption | decide | simp)).call [2] (by decide) trivial (And.intro rfl trivial) ?_
        rintro _ _ ⟨rfl, rfl⟩
        conv => whnf
        refine (builds_s _ (by first | omega | assumption | decide | simp) _ _ _ _ _).call ?_
        rintro _ rfl
        conv => whnf
        refine both_t rfl ?_
        conv => whnf
        refine (awake20_s).call ?_
        rintro _ rfl
        conv => whnf
theorem szS_up {ls : List Int} (h : lnO ls) : ∀ i, i ≤ ls.length → szS ls i ≤ 4100 * (i : Int) - 4 := by
  intro i
  induction i with
  | zero => intro _; simp [szS]
  | succ i ih =>
    intro hi
    have := ih (by omega)
    have := h i (by omega)
    simp only [szS]; omega
theorem most_ge {ls : List Int} {p b t k o : Int} (h : 0 < bdv1 ls p b t k o) : mse p b t k o = 0 ∧ bdv2 ls p b t k o ≤ msv p b t k o ∧ bdv2 ls p b t k o ≤ t := by
  by_cases hO : bdO ls p b t k o
  · obtain ⟨y1, y2, y3⟩ := bd_yes hO
    rw [y1] at h
    rw [y2]
    obtain ⟨hc, hr, h8, hn⟩ := hO
    obtain ⟨⟨k0, k1⟩, o0, o1⟩ := (rtOk_iff _ _).1 hr
    have h0 : bdR ls p b t k o ≠ 0 := by omega
    have sp := bdN_spec (ls := ls) (p := p) (b := b) (t := t) (k := k) (o := o) (bdM ls)
    have pk : pmK ls p b t k o (bdR ls p b t k o) := sp.2.resolve_left h0
    have le : bdR ls p b t k o ≤ ls.length := by have := sp.1; have e : bdM ls ≤ ls.length := (by unfold bdM; split <;> omega); unfold bdR; omega
    have up := szS_up hn _ le
    have lo := szS_rng hn _ le
    obtain ⟨a1, a2, a3, a4, a5⟩ := pk
    rw [bdT, if_neg h0]
    generalize hm : szS ls (bdR ls p b t k o) = z at *
    have ob : o ≤ tmq k o z := by
      have : 0 ≤ (8000 * z + k - 1) / k := Int.ediv_nonneg (by omega) (by omega)
      unfold tmq; omega
    have ho : o ≤ t := by omega
    have bb := ((cpOk_iff _ _ _).1 hc).2.1
    have mn := msN_rng hc hr ho
    have fi := (ft_inv hr ho (m := z) (by omega) (by omega)).1 a5
    obtain ⟨u1, u2⟩ := ms_yes ⟨hc, hr⟩ ho
    have := tmq_mono (o := o) k0 (show z ≤ msN p b t k o by rcases mn.2.2.2.2.2 with e | e | e <;> omega)
    exact ⟨u2, by rw [u1]; omega, a5⟩
  · rw [(bd_no hO).1] at h; omega
theorem bdN_ge {ls : List Int} {p b t k o : Int} {j : Nat} (h : pmK ls p b t k o j) : ∀ m, j ≤ m → j ≤ bdN ls p b t k o m := by
  intro m
  induction m with
  | zero => intro hj; omega
  | succ m ih =>
    intro hj
    simp only [bdN]
    split
    · exact hj
    · rename_i hn
      by_cases e : j = m + 1
      · subst e; exact (hn h).elim
      · exact ih (by omega)
theorem bd_iff {ls : List Int} (hn : lnO ls) {p b t k o : Int} (hc : cpOk p b t = true) (hr : rtOk k o = true) (h32 : ls.length ≤ 32) {j : Nat} (j0 : 1 ≤ j) (hj : j ≤ ls.length) : pmB (ls.take j) p b t k o = decide ((j : Int) ≤ (bdR ls p b t k o : Int)) := by
  have k0 := ((rtOk_iff _ _).1 hr).1.1
  have sp := bdN_spec (ls := ls) (p := p) (b := b) (t := t) (k := k) (o := o) (bdM ls)
  have hM : bdM ls = ls.length := by unfold bdM; rw [if_pos h32]
  have e : pmB (ls.take j) p b t k o = true ↔ pmK ls p b t k o j := by rw [← pmO_take hn hj]; simp [pmB, hc, hr]
  have e2 : pmK ls p b t k o j ↔ (j : Int) ≤ (bdR ls p b t k o : Int) := by
    constructor
    · intro h
      have := bdN_ge h (bdM ls) (by omega)
      unfold bdR; omega
    · intro h
      have h' : j ≤ bdN ls p b t k o (bdM ls) := by unfold bdR at h; omega
      rcases sp.2 with z | z
      · omega
      · exact pmK_down hn k0 (by omega) h' (by omega) z
  rw [Bool.eq_iff_iff, e, e2]; simp
theorem permitted_e {es : List (List SV)} {ls : List Int} (h : es = nums ls) (hlen : ls.length ≤ 1000000) (p b t k o : Int) : PSpec Try.prog 53 [.rs 1 es, cpE p b t, rtE k o] (· = .bool (pmB ls p b t k o)) := by
  subst h; exact permitted_s ls hlen p b t k o
theorem nil0 {P : Program} {f : FuncId} {z : Nat} {xs : List SV} {R : SV → Prop} (hs : PSpec P f (.rs z [] :: xs) R) : PSpec P f (.nils :: xs) R :=
  ⟨fun h K hk => ⟨fun w X σ vs hI hr => (hs.ok h K hk).ok w X σ vs hI ⟨by simpa using hr.1, fun i s v hs hv => by
    cases i with
    | zero =>
      simp at hs
      subst hs
      have := hr.2 0 .nils v rfl hv
      cases this
      exact .rs0 (Nat.zero_le _)
    | succ i => exact hr.2 (i + 1) s v (by simpa using hs) hv⟩⟩⟩
theorem permitted_n (p b t k o : Int) : PSpec Try.prog 53 [.nils, cpE p b t, rtE k o] (· = .bool (pmB [] p b t k o)) := nil0 (permitted_s [] (by decide) p b t k o)
theorem pmB_nil (p b t k o : Int) : pmB [] p b t k o = false := by
  have : ¬ pmO [] p b t k o := fun h => h.2.1 rfl
  simp [pmB, this]
theorem aggregateMost_s (ls : List Int) (c : Int × Int × Int) (r : Int × Int) : PSpec Try.prog 12 [.rs 1 (nums ls), cpE c.1 c.2.1 c.2.2, rtE r.1 r.2] TrueS := by
  refine .of_code' tab_ok Try.func12 (by rfl) rfl trivial ?_
  conv => whnf
  refine CallG.of_code tab_ok Try.func15 (by rfl) rfl ?_
  conv => whnf
  refine LoopG.inv tab_ok 107 (fun x : { x : Nat × Int // x.1 ≤ 5 ∧ 0 ≤ x.2 ∧ x.2 ≤ 30 * x.1 } => [(4, .ptr 0 0), (5, .ptr 1 0), (7, .ptr 2 0), (8, .int .i64 (x.1.1 : Int))])
    (fun x => [.fix 68 [.int .i64 c.1, .int .i64 c.2.1, .int .i64 c.2.2], .fix 52 [.int .i64 r.1, .int .i64 r.2], chs ls x.1.2]) (fun x => 5 - x.1.1) ⟨(0, 0), by decide⟩ (.of [some 0, some 1, some 2] (by rfl) ?_) ?_
  · conv => whnf
    refine ⟨by rfl, ?_⟩
    conv => whnf
    refine ⟨by rfl, ?_⟩
    conv => whnf
    refine ⟨by rfl, ?_⟩
    conv => whnf
    refine ⟨by rfl, ?_⟩
    conv => whnf
    refine ⟨by rfl, ?_⟩
    conv => whnf
    refine ⟨by rfl, ?_⟩
    conv => whnf
    refine ⟨by rfl, ?_⟩
    conv => whnf
    refine ⟨by rfl, ?_⟩
    conv => whnf
    exact trivial
  · intro x
    obtain ⟨hx1, hx2, hx3⟩ := x.2
    conv => whnf
    refine ⟨fun hb => ?_, fun hb => ?_⟩
    · have hb : (x.1.1 : Int) < 5 := by simpa using hb
      have r1 := cya_rng ls x.1.2
      have r2 := lna_rng ls (cya ls x.1.2 + 1) 12 (by omega)
      have q1 : (lny ls (cya ls x.1.2 + 1) 12).length ≤ 1000000 := by have := lny_len ls (cya ls x.1.2 + 1) 12; have := lnk_le ls (cya ls x.1.2 + 1) 12 (by omega); omega
      have mg := most_ge (ls := lny ls (cya ls x.1.2 + 1) 12) (p := cy0 ls x.1.2) (b := cy1 ls x.1.2) (t := cy2 ls x.1.2) (k := (rtx ls (cya ls x.1.2)).1) (o := (rtx ls (cya ls x.1.2)).2)
      conv => whnf
      refine (lcaps_s _ _ (by first | omega | assumption | decide | simp) (by first | omega | assumption | decide | simp)).call [2] (by decide) trivial (And.intro rfl trivial) ?_
      rintro _ _ ⟨rfl, rfl⟩
      conv => whnf
      refine (grate_s _ _ (by first | omega | assumption | decide | simp) (by first | omega | assumption | decide | simp)).call [2] (by decide) trivial (And.intro rfl trivial) ?_
      rintro _ _ ⟨rfl, rfl⟩
      conv => whnf
      refine (most_s _ _ _ _ _).call ?_
      rintro _ rfl
      conv => whnf
      refine (rmost_s _ _ _ _ _).call ?_
      rintro _ rfl
      conv => whnf
      refine DrawG.of mixed tab_ok ?_
      conv => whnf
      refine (lengths_s _ _ _ (by first | omega | assumption | decide | simp) (by first | omega | assumption | decide | simp) (by first | omega | assumption | decide | simp) (by first | omega | assumption | decide | simp)).calld [2] (by decide) rfl (And.intro rfl trivial) (And.intro rfl trivial) ?_
      conv => whnf
      refine (build_s _ (by first | omega | assumption | decide | simp) _ _ _ _ _).calld ?_
      conv => whnf
      refine ⟨by kernel_rfl, ?_⟩
      conv => whnf
      refine both_f (by simp) ?_
      conv => whnf
      refine both_f (by simp) ?_
      conv => whnf
      refine ⟨fun hh60 => ?_, fun hh60 => ?_⟩
      · simp only [decide_eq_true_eq, decide_eq_false_iff_not] at hh60
        conv => whnf
        refine ⟨fun hh61 => ?_, fun hh61 => ?_⟩
        · simp only [decide_eq_true_eq, decide_eq_false_iff_not] at hh61
          conv => whnf
          refine both_f (by simp; omega) ?_
          conv => whnf
          refine both_f (by simp; omega) ?_
          conv => whnf
          refine both_f (by simp; omega) ?_
          conv => whnf
          refine ⟨⟨(x.1.1 + 1, lna ls (cya ls x.1.2 + 1) 12), by show x.1.1 + 1 ≤ 5; omega, by show 0 ≤ lna ls (cya ls x.1.2 + 1) 12; omega, by show lna ls (cya ls x.1.2 + 1) 12 ≤ 30 * ((x.1.1 + 1 : Nat) : Int); omega⟩, by show 5 - (x.1.1 + 1) < 5 - x.1.1; omega, .of [some 0, some 1, some 2] (by rfl) ?_⟩
          conv => whnf
          refine ⟨by exact (w64 _ (by omega) (by omega)).trans (by simp), ?_⟩
          conv => whnf
          refine ⟨by rfl, ?_⟩
          conv => whnf
          refine ⟨by rfl, ?_⟩
          conv => whnf
          refine ⟨by rfl, ?_⟩
          conv => whnf
          refine ⟨by rfl, ?_⟩
          conv => whnf
          refine ⟨by rfl, ?_⟩
          conv => whnf
          refine ⟨by rfl, ?_⟩
          conv => whnf
          refine ⟨by rfl, ?_⟩
          conv => whnf
          exact trivial
        · simp only [decide_eq_true_eq, decide_eq_false_iff_not] at hh61
          conv => whnf
          refine ⟨⟨(x.1.1 + 1, lna ls (cya ls x.1.2 + 1) 12), by show x.1.1 + 1 ≤ 5; omega, by show 0 ≤ lna ls (cya ls x.1.2 + 1) 12; omega, by show lna ls (cya ls x.1.2 + 1) 12 ≤ 30 * ((x.1.1 + 1 : Nat) : Int); omega⟩, by show 5 - (x.1.1 + 1) < 5 - x.1.1; omega, .of [some 0, some 1, some 2] (by rfl) ?_⟩
          conv => whnf
          refine ⟨by exact (w64 _ (by omega) (by omega)).trans (by simp), ?_⟩
          conv => whnf
          refine ⟨by rfl, ?_⟩
          conv => whnf
          refine ⟨by rfl, ?_⟩
          conv => whnf
          refine ⟨by rfl, ?_⟩
          conv => whnf
          refine ⟨by rfl, ?_⟩
          conv => whnf
          refine ⟨by rfl, ?_⟩
          conv => whnf
          refine ⟨by rfl, ?_⟩
          conv => whnf
          refine ⟨by rfl, ?_⟩
          conv => whnf
          exact trivial
      · simp only [decide_eq_true_eq, decide_eq_false_iff_not] at hh60
        conv => whnf
        refine ⟨⟨(x.1.1 + 1, lna ls (cya ls x.1.2 + 1) 12), by show x.1.1 + 1 ≤ 5; omega, by show 0 ≤ lna ls (cya ls x.1.2 + 1) 12; omega, by show lna ls (cya ls x.1.2 + 1) 12 ≤ 30 * ((x.1.1 + 1 : Nat) : Int); omega⟩, by show 5 - (x.1.1 + 1) < 5 - x.1.1; omega, .of [some 0, some 1, some 2] (by rfl) ?_⟩
        conv => whnf
        refine ⟨by exact (w64 _ (by omega) (by omega)).trans (by simp), ?_⟩
        conv => whnf
        refine ⟨by rfl, ?_⟩
        conv => whnf
        refine ⟨by rfl, ?_⟩
        conv => whnf
        refine ⟨by rfl, ?_⟩
        conv => whnf
        refine ⟨by rfl, ?_⟩
        conv => whnf
        refine ⟨by rfl, ?_⟩
        conv => whnf
        refine ⟨by rfl, ?_⟩
        conv => whnf
        refine ⟨by rfl, ?_⟩
        conv => whnf
        exact trivial
    · conv => whnf
      refine .same ?_
      conv => whnf
      refine (most_s _ _ _ _ _).call ?_
      rintro _ rfl
      conv => whnf
      refine (rmost_s _ _ _ _ _).call ?_
      rintro _ rfl
      conv => whnf
      refine both_t (by simp) ?_
      conv => whnf
      refine both_t (by simp) ?_
      conv => whnf
      refine (awake20_s).call ?_
      rintro _ rfl
      conv => whnf
theorem aggregatePrefix_s (ls : List Int) : PSpec Try.prog 11 [.rs 1 (nums ls)] TrueS := by
  refine .of_code' tab_ok Try.func11 (by rfl) rfl trivial ?_
  have n0 := nxt_lo ls 0 9
  have n1 := nxt_hi ls 0 9 (by omega)
  have ew : IntKind.i64.wrap (1 + nxt ls 0 9) = 1 + nxt ls 0 9 := w64 _ (by omega) (by omega)
  conv => whnf
  refine CallG.of_code tab_ok Try.func15 (by rfl) rfl ?_
  conv => whnf
  refine (next_s _ _ _ (by first | omega | assumption | decide | simp) (by first | omega | assumption | decide | simp) (by first | omega | assumption | decide | simp)).call [0] (by decide) (And.intro rfl trivial) (And.intro rfl trivial) ?_
  rintro _ _ ⟨rfl, rfl⟩
  conv => whnf
  refine LoopG.inv tab_ok 73 (fun x : { x : List Int × Nat × Int // ((x.1.length : Int) + x.2.1 = 1 + nxt ls 0 9) ∧ 0 ≤ x.2.2 ∧ x.2.2 + (x.2.1 : Int) ≤ 20 ∧ lnO x.1 } => [(3, .ptr 0 0), (4, .sl 1), (5, .int .i64 (x.1.2.1 : Int))])
    (fun x => [chs ls x.1.2.2, .row 3 1 (nums x.1.1)]) (fun x => x.1.2.1) ⟨([], (1 + nxt ls 0 9).toNat, 0 + 1), by simp; omega, by show (0 : Int) ≤ 0 + 1; omega, by show (0 + 1 : Int) + ((1 + nxt ls 0 9).toNat : Int) ≤ 20; omega, by intro i hi; simp at hi⟩ (.of [some 0, none] (by rfl) ?_) ?_
  · conv => whnf
    refine ⟨by simp; omega, ?_⟩
    conv => whnf
    refine ⟨by rfl, ?_⟩
    conv => whnf
    refine ⟨by rfl, ?_⟩
    conv => whnf
    refine ⟨by rfl, ?_⟩
    conv => whnf
    exact trivial
  · intro x
    obtain ⟨hx1, hx2, hx3, hx4⟩ := x.2
    conv => whnf
    refine ⟨fun hb => ?_, fun hb => ?_⟩
    · have hb : (0 : Int) < (x.1.2.1 : Int) := by simpa using hb
      have e3 : IntKind.i64.wrap ((x.1.2.1 : Int) - 1) = ((x.1.2.1 - 1 : Nat) : Int) := by rw [w64 _ (by omega) (by omega)]; omega
      have e4 : lnO (x.1.1 ++ [lex ls x.1.2.2]) := by
        intro i hi
        simp at hi
        by_cases e : i < x.1.1.length
        · have := hx4 i e; simpa [List.getD, List.getElem?_append_left e] using this
        · have e : i = x.1.1.length := by omega
          subst e
          have := lex_rng ls x.1.2.2
          simpa [List.getD] using this
      conv => whnf
      refine (length_s _ _ (by first | omega | assumption | decide | simp) (by first | omega | assumption | decide | simp)).call [0] (by decide) trivial (And.intro rfl trivial) ?_
      rintro _ _ ⟨rfl, rfl⟩
      conv => whnf
      refine ⟨by (simp [nums_len]; omega), ?_⟩
      conv => whnf
      refine ⟨⟨(x.1.1 ++ [lex ls x.1.2.2], x.1.2.1 - 1, x.1.2.2 + 1), by simp; omega, by show 0 ≤ x.1.2.2 + 1; omega, by show x.1.2.2 + 1 + ((x.1.2.1 - 1 : Nat) : Int) ≤ 20; omega, e4⟩, by show x.1.2.1 - 1 < x.1.2.1; omega, .of [some 0, some 3] (by rfl) ?_⟩
      conv => whnf
      refine ⟨by omega, ?_⟩
      conv => whnf
      refine ⟨by rfl, ?_⟩
      conv => whnf
      refine ⟨by rfl, ?_⟩
      conv => whnf
      refine ⟨by (rw [num_app]), ?_⟩
      conv => whnf
      exact trivial
    · have hb : ¬ (0 : Int) < (x.1.2.1 : Int) := by simpa using hb
      generalize hu : x.1.1 = us at *
      generalize hv : x.1.2.2 = a at *
      have hl := nums_len us
      have hc := cx_ok ls a
      have hr := rtx_ok ls (a + 1 + 1 + 1)
      have hO : bdO us (cx0 ls a) (cx1 ls a) (cx2 ls a) (rtx ls (a + 1 + 1 + 1)).1 (rtx ls (a + 1 + 1 + 1)).2 := ⟨hc, hr, by omega, hx4⟩
      obtain ⟨y1, y2, y3⟩ := bd_yes hO
      rw [if_neg (by omega)] at y3
      have sp := bdN_spec (ls := us) (p := cx0 ls a) (b := cx1 ls a) (t := cx2 ls a) (k := (rtx ls (a + 1 + 1 + 1)).1) (o := (rtx ls (a + 1 + 1 + 1)).2) (bdM us)
      have le : bdR us (cx0 ls a) (cx1 ls a) (cx2 ls a) (rtx ls (a + 1 + 1 + 1)).1 (rtx ls (a + 1 + 1 + 1)).2 ≤ us.length := by
        have := sp.1; have e : bdM us ≤ us.length := by unfold bdM; split <;> omega
        unfold bdR; omega
      conv => whnf
      refine XG.freeze 1 ?_
      conv => whnf
      refine .same ?_
      conv => whnf
      refine (gcaps_s _ _ (by first | omega | assumption | decide | simp) (by first | omega | assumption | decide | simp)).call [0] (by decide) trivial (And.intro rfl trivial) ?_
      rintro _ _ ⟨rfl, rfl⟩
      conv => whnf
      refine (grate_s _ _ (by first | omega | assumption | decide | simp) (by first | omega | assumption | decide | simp)).call [0] (by decide) trivial (And.intro rfl trivial) ?_
      rintro _ _ ⟨rfl, rfl⟩
      conv => whnf
      refine (build_s _ (by first | omega | assumption | decide | simp) _ _ _ _ _).call ?_
      rintro _ rfl
      rw [y1, y3]
      conv => whnf
      refine both_f (by simp) ?_
      conv => whnf
      refine both_f (by exact decide_eq_false (by omega)) ?_
      conv => whnf
      refine both_f (by rw [hl]; exact decide_eq_false (by omega)) ?_
      have bi := fun j => bd_iff hx4 hc hr (by omega) (j := j)
      generalize hP : cx0 ls a = p at *
      generalize hB : cx1 ls a = b at *
      generalize hT : cx2 ls a = t at *
      generalize hK : (rtx ls (a + 1 + 1 + 1)).1 = k at *
      generalize hQ : (rtx ls (a + 1 + 1 + 1)).2 = o at *
      conv => whnf
      refine LoopG.inv tab_ok 73 (fun i : { i : Nat // 1 ≤ i ∧ i ≤ us.length + 1 } => [(4, .rs 1 (nums us)), (6, .ptr 0 0), (7, .ptr 1 0), (8, .int .i64 (bdR us p b t k o : Int)), (11, .int .i64 (i.1 : Int))])
        (fun _ => [.fix 68 [.int .i64 p, .int .i64 b, .int .i64 t], .fix 52 [.int .i64 k, .int .i64 o]]) (fun i => us.length + 1 - i.1) ⟨1, by omega⟩ (.of [some 2, some 3] (by rfl) ?_) ?_
      · conv => whnf
        refine ⟨by rfl, ?_⟩
        conv => whnf
        refine ⟨by rfl, ?_⟩
        conv => whnf
        refine ⟨by rfl, ?_⟩
        conv => whnf
        refine ⟨by rfl, ?_⟩
        conv => whnf
        refine ⟨by rfl, ?_⟩
        conv => whnf
        refine ⟨by rfl, ?_⟩
        conv => whnf
        refine ⟨by rfl, ?_⟩
        conv => whnf
        refine ⟨by rfl, ?_⟩
        conv => whnf
        exact trivial
      · intro i
        obtain ⟨i0, i1⟩ := i.2
        conv => whnf
        refine ⟨fun hb => ?_, fun hb => ?_⟩
        · have hb : i.1 ≤ us.length := by rw [hl] at hb; simp only [decide_eq_true_eq] at hb; omega
          have bj := bi i.1 i0 hb
          conv => whnf
          refine DrawG.of mixed tab_ok ?_
          conv => whnf
          refine ⟨by rw [hl]; omega, ?_⟩
          conv => whnf
          refine (permitted_e (ls := us.take i.1) (by exact sl_key rfl) (by simp; omega) p b t k o).calld ?_
          rw [bj]
          conv => whnf
          refine ⟨by kernel_rfl, ?_⟩
          conv => whnf
          refine both_f (by simp) ?_
          conv => whnf
          refine ⟨⟨i.1 + 1, by omega⟩, by show us.length + 1 - (i.1 + 1) < us.length + 1 - i.1; omega, .of [some 0, some 1] (by rfl) ?_⟩
          conv => whnf
          refine ⟨by rfl, ?_⟩
          conv => whnf
          refine ⟨by rfl, ?_⟩
          conv => whnf
          refine ⟨by exact (w64 _ (by omega) (by omega)).trans (by simp), ?_⟩
          conv => whnf
          refine ⟨by rfl, ?_⟩
          conv => whnf
          refine ⟨by rfl, ?_⟩
          conv => whnf
          refine ⟨by rfl, ?_⟩
          conv => whnf
          refine ⟨by rfl, ?_⟩
          conv => whnf
          refine ⟨by rfl, ?_⟩
          conv => whnf
          exact trivial
        · conv => whnf
          refine .same ?_
          conv => whnf
          refine (permitted_n _ _ _ _ _).call ?_
          rintro _ rfl
          conv => whnf
          refine both_t (by rw [pmB_nil]; rfl) ?_
          conv => whnf
          refine (awake20_s).call ?_
          rintro _ rfl
          conv => whnf
end Go.Proofs.Ythlomoacacebead

/- The statement PacketFormat as a contract. -/
import Derived.Test.YtdommpfnoiemkaaPktL
namespace Go.Proofs.Ytdommpfnoiemkaa
open Go.Sx
set_option linter.unusedSimpArgs false
set_option linter.unusedVariables false
theorem l2_get {a b : Int} {i : Int} (h0 : 0 ≤ i) (h1 : i < 2) : [[SV.int .i64 a], [SV.int .i64 b]][i.toNat]? = some [SV.int .i64 ([a, b].getD i.toNat 0)] := by
  have : i = 0 ∨ i = 1 := by omega
  rcases this with rfl | rfl <;> rfl
theorem packetFormat_s (ls : List Int) (st : List UInt8) (c p l f : Int) : PSpec Try.prog 3 [.rs 1 (nums ls), .agg [.str st, .int .i64 c, .int .i64 p, .int .i64 l, .int .i64 f]] TrueS := by
  refine .of_code' tab_ok Try.func3 (by rfl) rfl trivial ?_
  conv => whnf
  refine CallG.of_code tab_ok Try.func14 (by rfl) rfl ?_
  conv => whnf
  refine LoopG.inv tab_ok 70 (fun x : { x : Int × Nat // 0 ≤ x.1 ∧ x.1 ≤ 10 * (x.2 : Int) ∧ x.2 ≤ 4 } => [(3, .ptr 0 0), (5, .ptr 1 0), (6, .int .i64 (x.1.2 : Int))])
    (fun x => [.fix 24 [.str st, .int .i64 c, .int .i64 p, .int .i64 l, .int .i64 f], chs ls x.1.1]) (fun x => 4 - x.1.2) ⟨(0, 0), by simp⟩ (.of [some 0, some 1] (by rfl) ?_) ?_
  · conv => whnf
    refine ⟨by rfl, ?_⟩
    conv => whnf
    refine ⟨by rfl, ?_⟩
    conv => whnf
    refine ⟨by rfl, ?_⟩
    conv => whnf
    refine ⟨by rfl, ?_⟩
    conv => whnf
    refine ⟨by rfl, ?_⟩
    conv => whnf
    refine ⟨by rfl, ?_⟩
    conv => whnf
    refine ⟨by rfl, ?_⟩
    conv => whnf
    refine ⟨by rfl, ?_⟩
    conv => whnf
    exact trivial
  · intro x
    have hx := x.2
    have hst := hdOk_of (hdX_ok ls x.1.1)
    have hsl := nameOk_len hst.1
    have n0 := nxt_lo ls (x.1.1 + 5 + 1) 2
    have n1 := nxt_hi ls (x.1.1 + 5 + 1) 2 (by omega)
    have hnl := nam_len (nxt ls (x.1.1 + 5 + 1) 20).toNat
    conv => whnf
    refine ⟨fun hb => ?_, fun hb => ?_⟩
    · have hb : x.1.2 < 4 := by simp only [decide_eq_true_eq] at hb; omega
      conv => whnf
      refine (header_s _ _ (by first | omega | assumption | decide | simp) (by first | omega | assumption | decide | simp)).call [1] (by decide) trivial (And.intro rfl trivial) ?_
      rintro _ _ ⟨rfl, rfl⟩
      conv => whnf
      refine (formats_s _ _ _ _ _ (by first | omega | assumption | decide | simp)).call ?_
      rintro _ rfl
      conv => whnf
      refine both_f rfl ?_
      conv => whnf
      refine (next_s _ _ _ (by first | omega | assumption | decide | simp) (by first | omega | assumption | decide | simp) (by first | omega | assumption | decide | simp)).call [1] (by decide) (And.intro rfl trivial) (And.intro rfl trivial) ?_
      rintro _ _ ⟨rfl, rfl⟩
      conv => whnf
      refine ⟨fun hh30 => ?_, fun hh30 => ?_⟩
      · simp only [decide_eq_true_eq, decide_eq_false_iff_not] at hh30
        conv => whnf
        refine (next_s _ _ _ (by first | omega | assumption | decide | simp) (by first | omega | assumption | decide | simp) (by first | omega | assumption | decide | simp)).call [1] (by decide) (And.intro rfl trivial) (And.intro rfl trivial) ?_
        rintro _ _ ⟨rfl, rfl⟩
        conv => whnf
        refine ⟨by simp; omega, ?_⟩
        conv => whnf
        refine ⟨_, l2_get n0 n1, ?_⟩
        conv => whnf
        refine (formats_s _ _ _ _ _ (by first | omega | assumption | decide | simp)).call ?_
        rintro _ rfl
        conv => whnf
        refine both_f rfl ?_
        conv => whnf
        (refine ⟨⟨(x.1.1 + 7, x.1.2 + 1), by show 0 ≤ x.1.1 + 7 ∧ x.1.1 + 7 ≤ 10 * ((x.1.2 + 1 : Nat) : Int) ∧ x.1.2 + 1 ≤ 4; omega⟩, by show 4 - (x.1.2 + 1) < 4 - x.1.2; omega, .of [some 0, some 1] (by rfl) ?_⟩)
        conv => whnf
        refine ⟨by exact (w64 _ (by omega) (by omega)).trans (by simp), ?_⟩
        conv => whnf
        refine ⟨by rfl, ?_⟩
        conv => whnf
        refine ⟨by rfl, ?_⟩
        conv => whnf
        refine ⟨by rfl, ?_⟩
        conv => whnf
        refine ⟨by rfl, ?_⟩
        conv => whnf
        refine ⟨by rfl, ?_⟩
        conv => whnf
        refine ⟨by rfl, ?_⟩
        conv => whnf
        refine ⟨by simp; omega, ?_⟩
        conv => whnf
        exact trivial
      · simp only [decide_eq_true_eq, decide_eq_false_iff_not] at hh30
        conv => whnf
        refine ⟨fun hh53 => ?_, fun hh53 => ?_⟩
        · simp only [decide_eq_true_eq, decide_eq_false_iff_not] at hh53
          conv => whnf
          refine (next_s _ _ _ (by first | omega | assumption | decide | simp) (by first | omega | assumption | decide | simp) (by first | omega | assumption | decide | simp)).call [1] (by decide) (And.intro rfl trivial) (And.intro rfl trivial) ?_
          rintro _ _ ⟨rfl, rfl⟩
          conv => whnf
          refine ⟨by simp; omega, ?_⟩
          conv => whnf
          refine ⟨_, l2_get n0 n1, ?_⟩
          conv => whnf
          refine (formats_s _ _ _ _ _ (by first | omega | assumption | decide | simp)).call ?_
          rintro _ rfl
          conv => whnf
          refine both_f rfl ?_
          conv => whnf
          (refine ⟨⟨(x.1.1 + 7, x.1.2 + 1), by show 0 ≤ x.1.1 + 7 ∧ x.1.1 + 7 ≤ 10 * ((x.1.2 + 1 : Nat) : Int) ∧ x.1.2 + 1 ≤ 4; omega⟩, by show 4 - (x.1.2 + 1) < 4 - x.1.2; omega, .of [some 0, some 1] (by rfl) ?_⟩)
          conv => whnf
          refine ⟨by exact (w64 _ (by omega) (by omega)).trans (by simp), ?_⟩
          conv => whnf
          refine ⟨by rfl, ?_⟩
          conv => whnf
          refine ⟨by rfl, ?_⟩
          conv => whnf
          refine ⟨by rfl, ?_⟩
          conv => whnf
          refine ⟨by rfl, ?_⟩
          conv => whnf
          refine ⟨by rfl, ?_⟩
          conv => whnf
          refine ⟨by rfl, ?_⟩
          conv => whnf
          refine ⟨by simp; omega, ?_⟩
          conv => whnf
          exact trivial
        · simp only [decide_eq_true_eq, decide_eq_false_iff_not] at hh53
          conv => whnf
          refine ⟨fun hh76 => ?_, fun hh76 => ?_⟩
          · simp only [decide_eq_true_eq, decide_eq_false_iff_not] at hh76
            conv => whnf
            refine (next_s _ _ _ (by first | omega | assumption | decide | simp) (by first | omega | assumption | decide | simp) (by first | omega | assumption | decide | simp)).call [1] (by decide) (And.intro rfl trivial) (And.intro rfl trivial) ?_
            rintro _ _ ⟨rfl, rfl⟩
            conv => whnf
            refine ⟨by simp; omega, ?_⟩
            conv => whnf
            refine ⟨_, l2_get n0 n1, ?_⟩
            conv => whnf
            refine (formats_s _ _ _ _ _ (by first | omega | assumption | decide | simp)).call ?_
            rintro _ rfl
            conv => whnf
            refine both_f rfl ?_
            conv => whnf
            (refine ⟨⟨(x.1.1 + 7, x.1.2 + 1), by show 0 ≤ x.1.1 + 7 ∧ x.1.1 + 7 ≤ 10 * ((x.1.2 + 1 : Nat) : Int) ∧ x.1.2 + 1 ≤ 4; omega⟩, by show 4 - (x.1.2 + 1) < 4 - x.1.2; omega, .of [some 0, some 1] (by rfl) ?_⟩)
            conv => whnf
            refine ⟨by exact (w64 _ (by omega) (by omega)).trans (by simp), ?_⟩
            conv => whnf
            refine ⟨by rfl, ?_⟩
            conv => whnf
            refine ⟨by rfl, ?_⟩
            conv => whnf
            refine ⟨by rfl, ?_⟩
            conv => whnf
            refine ⟨by rfl, ?_⟩
            conv => whnf
            refine ⟨by rfl, ?_⟩
            conv => whnf
            refine ⟨by rfl, ?_⟩
            conv => whnf
            refine ⟨by simp; omega, ?_⟩
            conv => whnf
            exact trivial
          · simp only [decide_eq_true_eq, decide_eq_false_iff_not] at hh76
            conv => whnf
            refine ⟨fun hh99 => ?_, fun hh99 => ?_⟩
            · simp only [decide_eq_true_eq, decide_eq_false_iff_not] at hh99
              conv => whnf
              refine (next_s _ _ _ (by first | omega | assumption | decide | simp) (by first | omega | assumption | decide | simp) (by first | omega | assumption | decide | simp)).call [1] (by decide) (And.intro rfl trivial) (And.intro rfl trivial) ?_
              rintro _ _ ⟨rfl, rfl⟩
              conv => whnf
              refine ⟨by simp; omega, ?_⟩
              conv => whnf
              refine ⟨_, l2_get n0 n1, ?_⟩
              conv => whnf
              refine (formats_s _ _ _ _ _ (by first | omega | assumption | decide | simp)).call ?_
              rintro _ rfl
              conv => whnf
              refine both_f rfl ?_
              conv => whnf
              (refine ⟨⟨(x.1.1 + 7, x.1.2 + 1), by show 0 ≤ x.1.1 + 7 ∧ x.1.1 + 7 ≤ 10 * ((x.1.2 + 1 : Nat) : Int) ∧ x.1.2 + 1 ≤ 4; omega⟩, by show 4 - (x.1.2 + 1) < 4 - x.1.2; omega, .of [some 0, some 1] (by rfl) ?_⟩)
              conv => whnf
              refine ⟨by exact (w64 _ (by omega) (by omega)).trans (by simp), ?_⟩
              conv => whnf
              refine ⟨by rfl, ?_⟩
              conv => whnf
              refine ⟨by rfl, ?_⟩
              conv => whnf
              refine ⟨by rfl, ?_⟩
              conv => whnf
              refine ⟨by rfl, ?_⟩
              conv => whnf
              refine ⟨by rfl, ?_⟩
              conv => whnf
              refine ⟨by rfl, ?_⟩
              conv => whnf
              refine ⟨by simp; omega, ?_⟩
              conv => whnf
              exact trivial
            · simp only [decide_eq_true_eq, decide_eq_false_iff_not] at hh99
              conv => whnf
              refine (gname_s _ _ (by first | omega | assumption | decide | simp) (by first | omega | assumption | decide | simp)).call [1] (by decide) trivial (And.intro rfl trivial) ?_
              rintro _ _ ⟨rfl, rfl⟩
              conv => whnf
              refine (formats_s _ _ _ _ _ (by first | omega | assumption | decide | simp)).call ?_
              rintro _ rfl
              conv => whnf
              refine both_f rfl ?_
              conv => whnf
              (refine ⟨⟨(x.1.1 + 7, x.1.2 + 1), by show 0 ≤ x.1.1 + 7 ∧ x.1.1 + 7 ≤ 10 * ((x.1.2 + 1 : Nat) : Int) ∧ x.1.2 + 1 ≤ 4; omega⟩, by show 4 - (x.1.2 + 1) < 4 - x.1.2; omega, .of [some 0, some 1] (by rfl) ?_⟩)
              conv => whnf
              refine ⟨by exact (w64 _ (by omega) (by omega)).trans (by simp), ?_⟩
              conv => whnf
              refine ⟨by rfl, ?_⟩
              conv => whnf
              refine ⟨by rfl, ?_⟩
              conv => whnf
              refine ⟨by rfl, ?_⟩
              conv => whnf
              refine ⟨by rfl, ?_⟩
              conv => whnf
              refine ⟨by rfl, ?_⟩
              conv => whnf
              refine ⟨by rfl, ?_⟩
              conv => whnf
              refine ⟨by simp; omega, ?_⟩
              conv => whnf
              exact trivial
    · conv => whnf
      refine .same ?_
      conv => whnf
      refine ⟨fun hh0 => ?_, fun hh0 => ?_⟩
      · simp only [decide_eq_true_eq, decide_eq_false_iff_not] at hh0
        conv => whnf
      · simp only [decide_eq_true_eq, decide_eq_false_iff_not] at hh0
        conv => whnf
        refine (formats_s _ _ _ _ _ (by first | omega | assumption | decide | simp)).call ?_
        rintro _ rfl
        conv => whnf
        refine both_t rfl ?_
        conv => whnf
        refine (awake8_s).call ?_
        rintro _ rfl
        conv => whnf
theorem packetFormatL (ls : List Int) (h : Hd) : PSpec Try.prog 3 [.rs 1 (nums ls), hdE h] TrueS := packetFormat_s ls h.st h.c h.p h.l h.f
end Go.Proofs.Ytdommpfnoiemkaa

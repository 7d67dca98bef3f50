/- The contract of the code of ChannelScript. -/
import Derived.Test.YthlomoacacebeacRefChan
namespace Go.Proofs.Ythlomoacacebeac
open Go.Sx
set_option linter.unusedSimpArgs false
set_option linter.unusedVariables false
def pkN (ls : List Int) (a : Int) : Int := 1 + nxt ls (a + 1) 5
def pkK (ls : List Int) (a : Int) : Int := if nxt ls a 3 = 0 then 2 else if nxt ls a 3 = 1 then 1 else 0
def pkA (ls : List Int) (a : Int) : Int := if nxt ls a 3 = 0 then 0 else if nxt ls a 3 = 1 then 1 + nxt ls (a + 1 + 1) (pkN ls a) else 0
def pkB (ls : List Int) (a : Int) : Int := if nxt ls a 3 = 0 then 0 else if nxt ls a 3 = 1 then pkN ls a else 0
def pkP (ls : List Int) (a : Int) : Int := if nxt ls a 3 = 0 then a + 1 else if nxt ls a 3 = 1 then a + 1 + 1 + 1 else a + 1
theorem pkN_rng (ls : List Int) (a : Int) : 1 ≤ pkN ls a ∧ pkN ls a ≤ 5 := by
  have n0 := nxt_lo ls (a + 1) 5
  have n1 := nxt_hi ls (a + 1) 5 (by omega)
  unfold pkN; omega
theorem pk_ok (ls : List Int) (a : Int) : prOk (pkK ls a) (pkA ls a) (pkB ls a) = true := by
  obtain ⟨r0, r1⟩ := pkN_rng ls a
  have n0 := nxt_lo ls (a + 1 + 1) (pkN ls a)
  have n1 := nxt_hi ls (a + 1 + 1) (pkN ls a) (by omega)
  unfold prOk pkK pkA pkB
  by_cases h0 : nxt ls a 3 = 0
  · simp [h0]
  · by_cases h1 : nxt ls a 3 = 1
    · simp [h1]; omega
    · simp [h0, h1]
theorem pkP_rng (ls : List Int) (a : Int) : a ≤ pkP ls a ∧ pkP ls a ≤ a + 3 := by unfold pkP; split <;> (try split) <;> omega
theorem gpred_s (ls : List Int) (a : Int) (h0 : 0 ≤ a) (h1 : a < 9223372036854775000) :
    OSpec Try.prog 41 [.ptr 0 0] [chs ls a] fun s ho => s = prE (pkK ls a) (pkA ls a) (pkB ls a) ∧ ho = [chs ls (pkP ls a)] := by
  refine .of_code tab_ok Try.func41 (by rfl) rfl trivial ?_
  have n0 := nxt_lo ls (a + 1) 5
  have n1 := nxt_hi ls (a + 1) 5 (by omega)
  obtain ⟨r0, r1⟩ := pkN_rng ls a
  have m0 := nxt_lo ls (a + 1 + 1) (pkN ls a)
  have m1 := nxt_hi ls (a + 1 + 1) (pkN ls a) (by omega)
  have w1 : IntKind.i64.wrap (1 + nxt ls (a + 1) 5) = pkN ls a := by unfold pkN; rw [w64 _ (by omega) (by omega)]
  have w2 : IntKind.i64.wrap (1 + nxt ls (a + 1 + 1) (pkN ls a)) = 1 + nxt ls (a + 1 + 1) (pkN ls a) := w64 _ (by omega) (by omega)
  conv => whnf
  refine (next_s _ _ _ (by first | omega | assumption | decide | simp) (by first | omega | assumption | decide | simp) (by first | omega | assumption | decide | simp)).call [0] (by decide) (And.intro rfl trivial) (And.intro rfl trivial) ?_
  rintro _ _ ⟨rfl, rfl⟩
  by_cases h0 : nxt ls a 3 = 0
  · have e1 : pkK ls a = 2 := by simp [pkK, h0]
    have e2 : pkA ls a = 0 := by simp [pkA, h0]
    have e3 : pkB ls a = 0 := by simp [pkB, h0]
    have e4 : pkP ls a = a + 1 := by simp [pkP, h0]
    rw [e1, e2, e3, e4]
    conv => whnf
    refine both_t (by exact decide_eq_true h0) ?_
    conv => whnf
    refine ⟨by rfl, ?_⟩
    conv => whnf
  · by_cases h1 : nxt ls a 3 = 1
    · have e1 : pkK ls a = 1 := by simp [pkK, h1]
      have e2 : pkA ls a = 1 + nxt ls (a + 1 + 1) (pkN ls a) := by simp [pkA, h1]
      have e3 : pkB ls a = pkN ls a := by simp [pkB, h1]
      have e4 : pkP ls a = a + 1 + 1 + 1 := by simp [pkP, h1]
      rw [e1, e2, e3, e4]
      conv => whnf
      refine both_f (by exact decide_eq_false h0) ?_
      conv => whnf
      refine both_t (by exact decide_eq_true h1) ?_
      conv => whnf
      refine (next_s _ _ _ (by first | omega | assumption | decide | simp) (by first | omega | assumption | decide | simp) (by first | omega | assumption | decide | simp)).call [0] (by decide) (And.intro rfl trivial) (And.intro rfl trivial) ?_
      rintro _ _ ⟨rfl, rfl⟩
      have p1 : 0 < IntKind.i64.wrap (1 + nxt ls (a + 1) 5) := by rw [w1]; omega
      conv => whnf
      refine (next_s _ _ _ (by first | omega | assumption | decide | simp) (by first | omega | assumption | decide | simp) (by first | omega | assumption | decide | simp)).call [0] (by decide) (And.intro rfl trivial) (And.intro rfl trivial) ?_
      rintro _ _ ⟨rfl, rfl⟩
      conv => whnf
      refine ⟨by simp [*], ?_⟩
      conv => whnf
    · have e1 : pkK ls a = 0 := by simp [pkK, h0, h1]
      have e2 : pkA ls a = 0 := by simp [pkA, h0, h1]
      have e3 : pkB ls a = 0 := by simp [pkB, h0, h1]
      have e4 : pkP ls a = a + 1 := by simp [pkP, h0, h1]
      rw [e1, e2, e3, e4]
      conv => whnf
      refine both_f (by exact decide_eq_false h0) ?_
      conv => whnf
      refine both_f (by exact decide_eq_false h1) ?_
      conv => whnf
      refine ⟨by rfl, ?_⟩
      conv => whnf
theorem stO_app {f : Nat → Bool} {L : List Bool} (h : stO f L L.length) (g : Bool) : stO (upd f (L.length % 32) g) (L ++ [g]) (L ++ [g]).length := by
  have h2 : stO f (L ++ [g]) L.length := by
    intro j hj hk
    rw [h j hj hk]
    simp [List.getD, List.getElem?_append_left hj]
  have h3 := stO_upd h2
  have e : (L ++ [g]).getD L.length false = g := by simp [List.getD]
  rw [e] at h3
  simpa using h3
theorem hist_eq {f : Nat → Bool} {L : List Bool} (h : stO f L L.length) : hsT f L.length (hsM L.length) = L.drop (L.length - 32) := by
  rw [hist_same h _ (by unfold hsM; split <;> omega) (by unfold hsM; split <;> omega)]
  congr 1
  unfold hsM; split <;> omega
theorem equalB2_s (A B : List Bool) (h : A = B) (hn : A.length ≤ 1000000) : PSpec Try.prog 46 [.rs 1 (bls A), .rs 1 (bls B)] (· = .bool true) := by
  subst h; exact equalB_s A hn
theorem hsT_small (f : Nat → Bool) (n : Nat) : (hsT f n (hsM n)).length ≤ 1000000 := by rw [hsT_len]; unfold hsM; split <;> omega
structure CSt where
  i : Nat
  at' : Int
  f : Nat → Bool
  L : List Bool
  an : Bool
  tr : Bool
  r : Int
def COk (s : CSt) : Prop := s.i ≤ 50 ∧ 0 ≤ s.at' ∧ s.at' ≤ 100 + 10 * (s.i : Int) ∧ stO s.f s.L s.L.length ∧ s.L.length ≤ s.i ∧ 0 ≤ s.r ∧ s.r ≤ (s.i : Int)
theorem channelScript_s (ls : List Int) : PSpec Try.prog 12 [.rs 1 (nums ls)] TrueS := by
  refine .of_code' tab_ok Try.func12 (by rfl) rfl trivial ?_
  have hp := pk_ok ls 0
  have pr := pkP_rng ls 0
  conv => whnf
  refine CallG.of_code tab_ok Try.func15 (by rfl) rfl ?_
  conv => whnf
  refine (gpred_s ls 0 (by omega) (by omega)).call [0] (by decide) trivial (And.intro rfl trivial) ?_
  rintro _ _ ⟨rfl, rfl⟩
  generalize hk : pkK ls 0 = k at *
  generalize ha : pkA ls 0 = a at *
  generalize hb : pkB ls 0 = b at *
  generalize hq : pkP ls 0 = q at *
  conv => whnf
  refine (cnew_yes _ _ _ (by first | omega | assumption | decide | simp)).call [2] (by rfl) (And.intro rfl (And.intro rfl (And.intro rfl trivial))) trivial ?_
  rintro _ _ ⟨rfl, rfl⟩
  conv => whnf
  refine (rnew_yes _ _ _ (by first | omega | assumption | decide | simp)).call [3] (by rfl) (And.intro rfl (And.intro rfl (And.intro rfl trivial))) trivial ?_
  rintro _ _ ⟨rfl, rfl⟩
  conv => whnf
  refine both_f rfl ?_
  conv => whnf
  refine LoopG.inv tab_ok 92 (fun x : { s : CSt // COk s } => [(2, .ff), (3, .ptr 0 0), (5, .ptr 1 0), (7, .ptr 2 0), (9, .int .i64 (x.1.i : Int))])
    (fun x => [chs ls x.1.at', chB k a b x.1.f x.1.L.length x.1.r x.1.an x.1.tr, refB k a b x.1.L x.1.an x.1.tr x.1.r]) (fun x => 50 - x.1.i)
    ⟨⟨0, q, noF, [], false, false, 0⟩, by show 0 ≤ 50; omega, by show 0 ≤ q; omega, by show q ≤ 100 + 10 * ((0 : Nat) : Int); omega, by intro j hj; simp at hj, Nat.le_refl 0, Int.le_refl 0, Int.le_refl 0⟩ (.of [some 0, some 2, some 3] (by rfl) ?_) ?_
  · conv => whnf
    refine ⟨by rfl, ?_⟩
    conv => whnf
    refine ⟨by rfl, ?_⟩
    conv => whnf
    refine ⟨by rfl, ?_⟩
    conv => whnf
    refine ⟨by rfl, ?_⟩
    conv => whnf
    refine ⟨by rfl, ?_⟩
    conv => whnf
    refine ⟨by rfl, ?_⟩
    conv => whnf
    refine ⟨by rfl, ?_⟩
    conv => whnf
    refine ⟨by rfl, ?_⟩
    conv => whnf
    refine ⟨by rfl, ?_⟩
    conv => whnf
    refine ⟨by rfl, ?_⟩
    conv => whnf
    refine ⟨by rfl, ?_⟩
    conv => whnf
    refine ⟨by rfl, ?_⟩
    conv => whnf
    refine ⟨by rfl, ?_⟩
    conv => whnf
    refine ⟨by rfl, ?_⟩
    conv => whnf
    refine ⟨by rfl, ?_⟩
    conv => whnf
    refine ⟨by rfl, ?_⟩
    conv => whnf
    refine ⟨by rfl, ?_⟩
    conv => whnf
    refine ⟨by rfl, ?_⟩
    conv => whnf
    refine ⟨by rfl, ?_⟩
    conv => whnf
    refine ⟨by rfl, ?_⟩
    conv => whnf
    refine ⟨by rfl, ?_⟩
    conv => whnf
    refine ⟨by rfl, ?_⟩
    conv => whnf
    refine ⟨by rfl, ?_⟩
    conv => whnf
    refine ⟨by rfl, ?_⟩
    conv => whnf
    refine ⟨by rfl, ?_⟩
    conv => whnf
    refine ⟨by rfl, ?_⟩
    conv => whnf
    refine ⟨by rfl, ?_⟩
    conv => whnf
    refine ⟨by rfl, ?_⟩
    conv => whnf
    refine ⟨by rfl, ?_⟩
    conv => whnf
    refine ⟨by rfl, ?_⟩
    conv => whnf
    refine ⟨by rfl, ?_⟩
    conv => whnf
    refine ⟨by rfl, ?_⟩
    conv => whnf
    refine ⟨by rfl, ?_⟩
    conv => whnf
    refine ⟨by rfl, ?_⟩
    conv => whnf
    refine ⟨by rfl, ?_⟩
    conv => whnf
    refine ⟨by rfl, ?_⟩
    conv => whnf
    refine ⟨by rfl, ?_⟩
    conv => whnf
    refine ⟨by rfl, ?_⟩
    conv => whnf
    refine ⟨by rfl, ?_⟩
    conv => whnf
    refine ⟨by rfl, ?_⟩
    conv => whnf
    refine ⟨by rfl, ?_⟩
    conv => whnf
    refine ⟨by rfl, ?_⟩
    conv => whnf
    refine ⟨by rfl, ?_⟩
    conv => whnf
    refine ⟨by rfl, ?_⟩
    conv => whnf
    refine ⟨by rfl, ?_⟩
    conv => whnf
    refine ⟨by rfl, ?_⟩
    conv => whnf
    refine ⟨by rfl, ?_⟩
    conv => whnf
    refine ⟨by rfl, ?_⟩
    conv => whnf
    refine ⟨by rfl, ?_⟩
    conv => whnf
    exact trivial
  · intro x
    obtain ⟨h1, h2, h3, h4, h5, h6, h7⟩ := x.2
    conv => whnf
    refine ⟨fun hb => ?_, fun hb => ?_⟩
    · have hb : x.1.i < 50 := by simp only [decide_eq_true_eq] at hb; omega
      conv => whnf
      refine (next_s _ _ _ (by first | omega | assumption | decide | simp) (by first | omega | assumption | decide | simp) (by first | omega | assumption | decide | simp)).call [0] (by decide) (And.intro rfl trivial) (And.intro rfl trivial) ?_
      rintro _ _ ⟨rfl, rfl⟩
      conv => whnf
      refine (next_s _ _ _ (by first | omega | assumption | decide | simp) (by first | omega | assumption | decide | simp) (by first | omega | assumption | decide | simp)).call [0] (by decide) (And.intro rfl trivial) (And.intro rfl trivial) ?_
      rintro _ _ ⟨rfl, rfl⟩
      generalize hg : decide (nxt ls x.1.at' 3 > 0) = g
      conv => whnf
      refine ⟨fun hc => ?_, fun hc => ?_⟩
      · have pv := pred_same hp h4 true g
        have he := hist_eq h4
        have hs := hsT_small x.1.f x.1.L.length
        conv => whnf
        refine (announce_s _ _ _ _ _ _ _ _ _).call [1] (by rfl) (And.intro rfl trivial) (And.intro rfl (And.intro rfl (And.intro rfl (And.intro rfl (And.intro rfl (And.intro rfl (And.intro rfl (And.intro rfl (And.intro rfl (And.intro rfl (And.intro rfl (And.intro rfl (And.intro rfl (And.intro rfl (And.intro rfl (And.intro rfl (And.intro rfl (And.intro rfl (And.intro rfl (And.intro rfl (And.intro rfl (And.intro rfl (And.intro rfl (And.intro rfl (And.intro rfl (And.intro rfl (And.intro rfl (And.intro rfl (And.intro rfl (And.intro rfl (And.intro rfl (And.intro rfl (And.intro rfl (And.intro rfl (And.intro rfl (And.intro rfl (And.intro rfl (And.intro rfl (And.intro rfl trivial))))))))))))))))))))))))))))))))))))))) ?_
        rintro _ _ ⟨rfl, rfl⟩
        conv => whnf
        refine (rannounce_s _ _ _ _ _ _ _ _).call [2] (by rfl) (And.intro rfl trivial) (And.intro rfl (And.intro rfl (And.intro rfl (And.intro rfl (And.intro rfl (And.intro rfl (And.intro rfl trivial))))))) ?_
        rintro _ _ ⟨rfl, rfl⟩
        conv => whnf
        refine (score_s _ _ _ _ _ _ _ _).call [1] (by decide) trivial (And.intro rfl trivial) ?_
        rintro _ _ ⟨rfl, rfl⟩
        conv => whnf
        refine (predict_s _ _ _ (by first | omega | assumption | decide | simp) _ _ _ _ _ (by first | omega | assumption | decide | simp)).call [1] (by decide) trivial (And.intro rfl trivial) ?_
        rintro _ _ ⟨rfl, rfl⟩
        conv => whnf
        refine (rpredict_s _ _ _ (by first | omega | assumption | decide | simp) _ (by first | omega | assumption | decide | simp) _ _ _).call [2] (by decide) trivial (And.intro rfl trivial) ?_
        rintro _ _ ⟨rfl, rfl⟩
        conv => whnf
        refine both_f (by simp; omega) ?_
        conv => whnf
        refine (history_s _ _ _ _ _ _ _ _ (by first | omega | assumption | decide | simp)).call [1] (by decide) trivial (And.intro rfl trivial) ?_
        rintro _ _ ⟨rfl, rfl⟩
        conv => whnf
        refine (rhistory_s _ _ _ _ (by first | omega | assumption | decide | simp) _ _ _).call [2] (by decide) trivial (And.intro rfl trivial) ?_
        rintro _ _ ⟨rfl, rfl⟩
        conv => whnf
        refine (equalB2_s _ _ (by first | omega | assumption | decide | simp) (by first | omega | assumption | decide | simp)).call ?_
        rintro _ rfl
        conv => whnf
        refine both_f rfl ?_
        conv => whnf
        refine both_f (by simp) ?_
        conv => whnf
        refine both_f (by simp) ?_
        conv => whnf
        refine ⟨⟨⟨x.1.i + 1, x.1.at' + 1 + 1, x.1.f, x.1.L, true, g, x.1.r⟩, by show x.1.i + 1 ≤ 50; omega, by show 0 ≤ x.1.at' + 1 + 1; omega, by show x.1.at' + 1 + 1 ≤ 100 + 10 * ((x.1.i + 1 : Nat) : Int); omega, h4, by show x.1.L.length ≤ x.1.i + 1; omega, h6, by show x.1.r ≤ ((x.1.i + 1 : Nat) : Int); omega⟩, by show 50 - (x.1.i + 1) < 50 - x.1.i; omega, .of [some 0, some 1, some 2] (by rfl) ?_⟩
        conv => whnf
        refine ⟨by exact (w64 _ (by omega) (by omega)).trans (by simp), ?_⟩
        conv => whnf
        refine ⟨by rfl, ?_⟩
        conv => whnf
        refine ⟨by rfl, ?_⟩
        conv => whnf
        refine ⟨by rfl, ?_⟩
        conv => whnf
        refine ⟨by rfl, ?_⟩
        conv => whnf
        refine ⟨by rfl, ?_⟩
        conv => whnf
        refine ⟨by rfl, ?_⟩
        conv => whnf
        refine ⟨by rfl, ?_⟩
        conv => whnf
        refine ⟨by rfl, ?_⟩
        conv => whnf
        refine ⟨by rfl, ?_⟩
        conv => whnf
        refine ⟨by rfl, ?_⟩
        conv => whnf
        refine ⟨by rfl, ?_⟩
        conv => whnf
        refine ⟨by rfl, ?_⟩
        conv => whnf
        refine ⟨by rfl, ?_⟩
        conv => whnf
        refine ⟨by rfl, ?_⟩
        conv => whnf
        refine ⟨by rfl, ?_⟩
        conv => whnf
        refine ⟨by rfl, ?_⟩
        conv => whnf
        refine ⟨by rfl, ?_⟩
        conv => whnf
        refine ⟨by rfl, ?_⟩
        conv => whnf
        refine ⟨by rfl, ?_⟩
        conv => whnf
        refine ⟨by rfl, ?_⟩
        conv => whnf
        refine ⟨by rfl, ?_⟩
        conv => whnf
        refine ⟨by rfl, ?_⟩
        conv => whnf
        refine ⟨by rfl, ?_⟩
        conv => whnf
        refine ⟨by rfl, ?_⟩
        conv => whnf
        refine ⟨by rfl, ?_⟩
        conv => whnf
        refine ⟨by rfl, ?_⟩
        conv => whnf
        refine ⟨by rfl, ?_⟩
        conv => whnf
        refine ⟨by rfl, ?_⟩
        conv => whnf
        refine ⟨by rfl, ?_⟩
        conv => whnf
        refine ⟨by rfl, ?_⟩
        conv => whnf
        refine ⟨by rfl, ?_⟩
        conv => whnf
        refine ⟨by rfl, ?_⟩
        conv => whnf
        refine ⟨by rfl, ?_⟩
        conv => whnf
        refine ⟨by rfl, ?_⟩
        conv => whnf
        refine ⟨by rfl, ?_⟩
        conv => whnf
        refine ⟨by rfl, ?_⟩
        conv => whnf
        refine ⟨by rfl, ?_⟩
        conv => whnf
        refine ⟨by rfl, ?_⟩
        conv => whnf
        refine ⟨by rfl, ?_⟩
        conv => whnf
        refine ⟨by rfl, ?_⟩
        conv => whnf
        refine ⟨by rfl, ?_⟩
        conv => whnf
        refine ⟨by rfl, ?_⟩
        conv => whnf
        refine ⟨by rfl, ?_⟩
        conv => whnf
        refine ⟨by rfl, ?_⟩
        conv => whnf
        refine ⟨by rfl, ?_⟩
        conv => whnf
        refine ⟨by rfl, ?_⟩
        conv => whnf
        refine ⟨by rfl, ?_⟩
        conv => whnf
        refine ⟨by rfl, ?_⟩
        conv => whnf
        exact trivial
      · have pv0 := pred_same hp h4 x.1.an x.1.tr
        have h4' := stO_app h4 g
        have e : (x.1.L ++ [g]).length = x.1.L.length + 1 := by simp
        have pv := pred_same hp h4' false x.1.tr
        have he : hsT (upd x.1.f (x.1.L.length % 32) g) (x.1.L.length + 1) (hsM (x.1.L.length + 1)) = List.drop ((x.1.L ++ [g]).length - 32) (x.1.L ++ [g]) := by
          have := hist_eq h4'
          rw [e] at this ⊢; exact this
        have hs := hsT_small (upd x.1.f (x.1.L.length % 32) g) (x.1.L.length + 1)
        have e1 : (x.1.L ++ [g]).length ≤ 1000000 := by omega
        have hr : 0 ≤ (if predV k a b x.1.f x.1.L.length x.1.an x.1.tr = g then x.1.r + 1 else x.1.r) ∧ (if predV k a b x.1.f x.1.L.length x.1.an x.1.tr = g then x.1.r + 1 else x.1.r) ≤ ((x.1.i + 1 : Nat) : Int) := by split <;> omega
        rw [pv0] at hr
        rw [e] at pv
        have hrr : 0 ≤ x.1.r ∧ x.1.r ≤ 100000 := by omega
        conv => whnf
        refine (observe_s _ _ _ (by first | omega | assumption | decide | simp) _ _ _ _ _ _ (by first | omega | assumption | decide | simp) (by first | omega | assumption | decide | simp)).call [1] (by rfl) (And.intro rfl trivial) (And.intro rfl (And.intro rfl (And.intro rfl (And.intro rfl (And.intro rfl (And.intro rfl (And.intro rfl (And.intro rfl (And.intro rfl (And.intro rfl (And.intro rfl (And.intro rfl (And.intro rfl (And.intro rfl (And.intro rfl (And.intro rfl (And.intro rfl (And.intro rfl (And.intro rfl (And.intro rfl (And.intro rfl (And.intro rfl (And.intro rfl (And.intro rfl (And.intro rfl (And.intro rfl (And.intro rfl (And.intro rfl (And.intro rfl (And.intro rfl (And.intro rfl (And.intro rfl (And.intro rfl (And.intro rfl (And.intro rfl (And.intro rfl (And.intro rfl (And.intro rfl (And.intro rfl trivial))))))))))))))))))))))))))))))))))))))) ?_
        rintro _ _ ⟨rfl, rfl⟩
        conv => whnf
        refine (robserve_s _ _ _ (by first | omega | assumption | decide | simp) _ (by first | omega | assumption | decide | simp) _ _ _ _ (by first | omega | assumption | decide | simp)).call [2] (by rfl) (And.intro rfl trivial) (And.intro rfl (And.intro rfl (And.intro rfl (And.intro rfl (And.intro rfl (And.intro rfl (And.intro rfl trivial))))))) ?_
        rintro _ _ ⟨rfl, rfl⟩
        conv => whnf
        refine (score_s _ _ _ _ _ _ _ _).call [1] (by decide) trivial (And.intro rfl trivial) ?_
        rintro _ _ ⟨rfl, rfl⟩
        conv => whnf
        refine (predict_s _ _ _ (by first | omega | assumption | decide | simp) _ _ _ _ _ (by first | omega | assumption | decide | simp)).call [1] (by decide) trivial (And.intro rfl trivial) ?_
        rintro _ _ ⟨rfl, rfl⟩
        conv => whnf
        refine (rpredict_s _ _ _ (by first | omega | assumption | decide | simp) _ (by first | omega | assumption | decide | simp) _ _ _).call [2] (by decide) trivial (And.intro rfl trivial) ?_
        rintro _ _ ⟨rfl, rfl⟩
        conv => whnf
        refine both_f (by simp; omega) ?_
        conv => whnf
        refine (history_s _ _ _ _ _ _ _ _ (by first | omega | assumption | decide | simp)).call [1] (by decide) trivial (And.intro rfl trivial) ?_
        rintro _ _ ⟨rfl, rfl⟩
        conv => whnf
        refine (rhistory_s _ _ _ _ (by first | omega | assumption | decide | simp) _ _ _).call [2] (by decide) trivial (And.intro rfl trivial) ?_
        rintro _ _ ⟨rfl, rfl⟩
        conv => whnf
        refine (equalB2_s _ _ (by first | omega | assumption | decide | simp) (by first | omega | assumption | decide | simp)).call ?_
        rintro _ rfl
        conv => whnf
        refine both_f rfl ?_
        conv => whnf
        refine both_f (by simp) ?_
        conv => whnf
        refine both_f (by simp [*]) ?_
        conv => whnf
        refine ⟨⟨⟨x.1.i + 1, x.1.at' + 1 + 1, upd x.1.f (x.1.L.length % 32) g, x.1.L ++ [g], false, x.1.tr, if rpredV k a b x.1.L x.1.an x.1.tr = g then x.1.r + 1 else x.1.r⟩, by show x.1.i + 1 ≤ 50; omega, by show 0 ≤ x.1.at' + 1 + 1; omega, by show x.1.at' + 1 + 1 ≤ 100 + 10 * ((x.1.i + 1 : Nat) : Int); omega, h4', by show (x.1.L ++ [g]).length ≤ x.1.i + 1; omega, hr.1, hr.2⟩, by show 50 - (x.1.i + 1) < 50 - x.1.i; omega, .of [some 0, some 1, some 2] (by rfl) ?_⟩
        conv => whnf
        refine ⟨by exact (w64 _ (by omega) (by omega)).trans (by simp), ?_⟩
        conv => whnf
        refine ⟨by rfl, ?_⟩
        conv => whnf
        refine ⟨by rfl, ?_⟩
        conv => whnf
        refine ⟨by rfl, ?_⟩
        conv => whnf
        refine ⟨by rfl, ?_⟩
        conv => whnf
        refine ⟨by rfl, ?_⟩
        conv => whnf
        refine ⟨by rfl, ?_⟩
        conv => whnf
        refine ⟨by rfl, ?_⟩
        conv => whnf
        refine ⟨by rfl, ?_⟩
        conv => whnf
        refine ⟨by rfl, ?_⟩
        conv => whnf
        refine ⟨by rfl, ?_⟩
        conv => whnf
        refine ⟨by rfl, ?_⟩
        conv => whnf
        refine ⟨by rfl, ?_⟩
        conv => whnf
        refine ⟨by rfl, ?_⟩
        conv => whnf
        refine ⟨by rfl, ?_⟩
        conv => whnf
        refine ⟨by rfl, ?_⟩
        conv => whnf
        refine ⟨by rfl, ?_⟩
        conv => whnf
        refine ⟨by rfl, ?_⟩
        conv => whnf
        refine ⟨by rfl, ?_⟩
        conv => whnf
        refine ⟨by rfl, ?_⟩
        conv => whnf
        refine ⟨by rfl, ?_⟩
        conv => whnf
        refine ⟨by rfl, ?_⟩
        conv => whnf
        refine ⟨by rfl, ?_⟩
        conv => whnf
        refine ⟨by rfl, ?_⟩
        conv => whnf
        refine ⟨by rfl, ?_⟩
        conv => whnf
        refine ⟨by rfl, ?_⟩
        conv => whnf
        refine ⟨by rfl, ?_⟩
        conv => whnf
        refine ⟨by rfl, ?_⟩
        conv => whnf
        refine ⟨by rfl, ?_⟩
        conv => whnf
        refine ⟨by rfl, ?_⟩
        conv => whnf
        refine ⟨by rfl, ?_⟩
        conv => whnf
        refine ⟨by rfl, ?_⟩
        conv => whnf
        refine ⟨by rfl, ?_⟩
        conv => whnf
        refine ⟨by rfl, ?_⟩
        conv => whnf
        refine ⟨by rfl, ?_⟩
        conv => whnf
        refine ⟨by rfl, ?_⟩
        conv => whnf
        refine ⟨by rfl, ?_⟩
        conv => whnf
        refine ⟨by rfl, ?_⟩
        conv => whnf
        refine ⟨by simp, ?_⟩
        conv => whnf
        refine ⟨by simp [*], ?_⟩
        conv => whnf
        refine ⟨by rfl, ?_⟩
        conv => whnf
        refine ⟨by rfl, ?_⟩
        conv => whnf
        refine ⟨by rfl, ?_⟩
        conv => whnf
        refine ⟨by rfl, ?_⟩
        conv => whnf
        refine ⟨by rfl, ?_⟩
        conv => whnf
        refine ⟨by rfl, ?_⟩
        conv => whnf
        refine ⟨by rfl, ?_⟩
        conv => whnf
        refine ⟨by rfl, ?_⟩
        conv => whnf
        refine ⟨by rfl, ?_⟩
        conv => whnf
        exact trivial
    · conv => whnf
      refine .same ?_
      conv => whnf
      refine (awake15_s).call ?_
      rintro _ rfl
      conv => whnf
end Go.Proofs.Ythlomoacacebeac

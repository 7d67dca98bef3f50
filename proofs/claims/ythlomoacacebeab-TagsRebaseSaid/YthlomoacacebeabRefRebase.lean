/- Contracts of the reference's least tag and rebased tags, and of the comparison of lists of tags. No statement of the seat is proved here. -/
import Derived.Test.YthlomoacacebeabRefTags
namespace Go.Proofs.Ythlomoacacebeab
open Go.Sx
set_option linter.unusedSimpArgs false
set_option linter.unusedVariables false
theorem lst_one (ts : List Tg) : lst ts 1 = 0 := by simp [lst]
theorem startT (ts : List Tg) (i : Nat) (h : i < ts.length) : startOf ts i = (getT ts i).s := by simp [startOf, getT_get h]
theorem rleast_s (ts : List Tg) (hl : ts.length ≤ 1000000) : PSpec Try.prog 42 [.rs 3 (ts.map tagE)] (· = .int .i64 (leastI ts)) := by
  refine .of_code' tab_ok Try.func42 (by rfl) rfl trivial ?_
  by_cases hv : tagsOk (-1) ts = true
  · by_cases h0 : ts = []
    · subst h0
      conv => whnf
      refine (rvalid_s _ (by first | omega | assumption | decide | simp)).call ?_
      rintro _ rfl
      conv => whnf
      refine both_f rfl ?_
      conv => whnf
      refine both_t rfl ?_
      conv => whnf
      rfl
    · have hp : 0 < ts.length := List.length_pos_iff.2 h0
      have hz : decide (((ts.map tagE).length : Int) = 0) = false := by simp [h0]
      conv => whnf
      refine (rvalid_s ts (by omega)).call ?_
      rintro _ rfl
      conv => whnf
      refine both_f (by simp [hv]) ?_
      conv => whnf
      refine both_f hz ?_
      conv => whnf
      refine LoopG.inv tab_ok 32 (fun i : { i : Nat // 1 ≤ i ∧ i ≤ ts.length } => [(0, .rs 3 (ts.map tagE)), (3, .int .i64 (lst ts i.1 : Int)), (4, .int .i64 (i.1 : Int))])
        (fun _ => []) (fun i => ts.length - i.1) ⟨1, by omega⟩ (.of [] (by decide) ?_) ?_
      · conv => whnf
        refine ⟨by rfl, ?_⟩
        conv => whnf
        refine ⟨by (show (0 : Int) = (lst ts 1 : Int); rw [lst_one]; rfl), ?_⟩
        conv => whnf
        refine ⟨by rfl, ?_⟩
        conv => whnf
        exact trivial
      · intro i
        have hi := i.2
        have hb2 := lst_le ts i.1
        conv => whnf
        refine ⟨fun hb => ?_, fun hb => ?_⟩
        · have hb : i.1 < ts.length := by simpa using hb
          have hk : lst ts i.1 < ts.length := by omega
          have s1 := startT ts i.1 hb
          have s2 := startT ts _ hk
          conv => whnf
          refine DrawG.of mixed tab_ok ?_
          conv => whnf
          refine ⟨by simp; omega, ?_⟩
          conv => whnf
          refine ⟨_, tg_get hb, ?_⟩
          conv => whnf
          refine ⟨by simp; omega, ?_⟩
          conv => whnf
          refine ⟨_, tg_get hk, ?_⟩
          conv => whnf
          refine ⟨by kernel_rfl, ?_⟩
          conv => whnf
          refine ⟨fun hh2 => ?_, fun hh2 => ?_⟩
          · simp only [decide_eq_true_eq, decide_eq_false_iff_not] at hh2
            conv => whnf
            refine ⟨⟨i.1 + 1, by omega⟩, by show ts.length - (i.1 + 1) < ts.length - i.1; omega, .of [] (by decide) ?_⟩
            conv => whnf
            refine ⟨by rfl, ?_⟩
            conv => whnf
            refine ⟨by (rw [lst, s1, s2, if_pos (by assumption)]), ?_⟩
            conv => whnf
            refine ⟨by exact (w64 _ (by omega) (by omega)).trans (by simp), ?_⟩
            conv => whnf
            exact trivial
          · simp only [decide_eq_true_eq, decide_eq_false_iff_not] at hh2
            conv => whnf
            refine ⟨⟨i.1 + 1, by omega⟩, by show ts.length - (i.1 + 1) < ts.length - i.1; omega, .of [] (by decide) ?_⟩
            conv => whnf
            refine ⟨by rfl, ?_⟩
            conv => whnf
            refine ⟨by (rw [lst, s1, s2, if_neg (by assumption)]), ?_⟩
            conv => whnf
            refine ⟨by exact (w64 _ (by omega) (by omega)).trans (by simp), ?_⟩
            conv => whnf
            exact trivial
        · have hb : ¬ i.1 < ts.length := by simpa using hb
          have hi : i.1 = ts.length := by omega
          conv => whnf
          refine .same ?_
          conv => whnf
          (rw [leastI, if_neg (by simp [h0, hv]), hi])
  · conv => whnf
    refine (rvalid_s _ (by first | omega | assumption | decide | simp)).call ?_
    rintro _ rfl
    conv => whnf
    refine both_t (by simp [*]) ?_
    conv => whnf
    simp [leastI, hv]
def rebF (ts : List Tg) (by' : Int) (i : Nat) : List (List SV) := ((ts.take i).map (subT by')).map tagE
theorem rebF_len (ts : List Tg) (by' : Int) (i : Nat) (h : i ≤ ts.length) : (rebF ts by' i).length = i := by simp [rebF]; omega
theorem rebF_app {ts : List Tg} {by' : Int} {i : Nat} (h : i < ts.length) {s : Int} (hs : s = (getT ts i).s - by') : rebF ts by' i ++ [[.int .i64 (getT ts i).f, .int .i64 (getT ts i).w, .int .i64 s]] = rebF ts by' (i + 1) := by
  subst hs
  rw [rebF, rebF, List.take_add_one, getT_get h]
  simp [tagE, subT]
theorem rrebase_r (ts : List Tg) (by' : Int) (hl : ts.length ≤ 1000000) (hb0 : -9223372036854775808 ≤ by') (hb1 : by' ≤ 9223372036854775807) :
    PSpec Try.prog 68 [.rs 3 (ts.map tagE), .int .i64 by'] (fun s => ∃ x, s = .tup [x, .int .i64 (rebE ts by')] ∧ RowIs 3 ((rebL ts by').map tagE) x) := by
  refine .of_codeF tab_ok Try.func68 (by rfl) rfl trivial ?_
  have bad : rebB ts by' = false → ∃ x, SV.tup [SV.nils, SV.int .i64 1] = .tup [x, .int .i64 (rebE ts by')] ∧ RowIs 3 ((rebL ts by').map tagE) x := fun h =>
    ⟨_, by simp [rebE, h], .inr ⟨rfl, by simp [rebL, h]⟩⟩
  conv => whnf
  refine (rvalid_s ts (by omega)).call ?_
  rintro _ rfl
  conv => whnf
  refine ⟨fun hv => ?_, fun hv => ?_⟩
  · conv => whnf
    exact bad (by have hv : tagsOk (-1) ts = false := by simpa using hv
                  simp [rebB, hv])
  · have hv : tagsOk (-1) ts = true := by simpa using hv
    conv => whnf
    refine ⟨fun hn => ?_, fun hn => ?_⟩
    · conv => whnf
      exact bad (by simp at hn; simp [rebB]; omega)
    · have hn : 0 ≤ by' := by simpa using hn
      have hB : rebB ts by' = true := by simp [rebB, hv, hn]
      conv => whnf
      refine LoopG.inv tab_ok 50 (fun i : { i : Nat // i ≤ ts.length ∧ ∀ k, k < i → by' ≤ (getT ts k).s } => [(0, .rs 3 (ts.map tagE)), (1, .int .i64 by'), (6, .sl 0), (7, .int .i64 (i.1 : Int))])
        (fun i => [.row 88 3 (rebF ts by' i.1)]) (fun i => ts.length - i.1) ⟨0, by omega, by omega⟩ (.of [none] (by decide) ?_) ?_
      · conv => whnf
        refine ⟨by rfl, ?_⟩
        conv => whnf
        refine ⟨by rfl, ?_⟩
        conv => whnf
        refine ⟨by rfl, ?_⟩
        conv => whnf
        refine ⟨by rfl, ?_⟩
        conv => whnf
        exact trivial
      · intro i
        obtain ⟨hi, hs⟩ := i.2
        have hlen := rebF_len ts by' i.1 hi
        conv => whnf
        refine ⟨fun hb => ?_, fun hb => ?_⟩
        · have hb : i.1 < ts.length := by simpa using hb
          have hm := tagsOk_mem hv _ (getT_mem hb)
          have hw : IntKind.i64.wrap ((getT ts i.1).s - by') = (getT ts i.1).s - by' := w64 _ (by omega) (by omega)
          conv => whnf
          refine ⟨by simp; omega, ?_⟩
          conv => whnf
          refine ⟨_, tg_get hb, ?_⟩
          conv => whnf
          refine ⟨fun hh1 => ?_, fun hh1 => ?_⟩
          · simp only [decide_eq_true_eq, decide_eq_false_iff_not] at hh1
            conv => whnf
            refine .same ?_
            conv => whnf
            refine ⟨_, by simp [rebE, hB, low_true hb (by omega)], .inr ⟨rfl, by simp [rebL, low_true hb (by omega)]⟩⟩
          · simp only [decide_eq_true_eq, decide_eq_false_iff_not] at hh1
            conv => whnf
            refine DrawG.of mixed tab_ok ?_
            conv => whnf
            refine ⟨by simp; omega, ?_⟩
            conv => whnf
            refine ⟨_, tg_get hb, ?_⟩
            conv => whnf
            refine ⟨by simp; omega, ?_⟩
            conv => whnf
            refine ⟨_, tg_get hb, ?_⟩
            conv => whnf
            refine ⟨by simp; omega, ?_⟩
            conv => whnf
            refine ⟨_, tg_get hb, ?_⟩
            conv => whnf
            refine ⟨by simp; omega, ?_⟩
            conv => whnf
            refine ⟨by kernel_rfl, ?_⟩
            conv => whnf
            refine ⟨⟨i.1 + 1, by omega, fun k hk => by rcases Nat.lt_or_ge k i.1 with h | h; exact hs k h; (have e : k = i.1 := by omega); rw [e]; omega⟩, by show ts.length - (i.1 + 1) < ts.length - i.1; omega, .of [some 2] (by decide) ?_⟩
            conv => whnf
            refine ⟨by rfl, ?_⟩
            conv => whnf
            refine ⟨by rfl, ?_⟩
            conv => whnf
            refine ⟨by exact (w64 _ (by omega) (by omega)).trans (by simp), ?_⟩
            conv => whnf
            refine ⟨by exact rebF_app hb hw, ?_⟩
            conv => whnf
            exact trivial
        · have hb : ¬ i.1 < ts.length := by simpa using hb
          have hlow : lowB ts by' = false := low_false fun k hk => hs k (by omega)
          have e : rebF ts by' i.1 = (rebL ts by').map tagE := by
            rw [rebL, hB, hlow, rebF, show i.1 = ts.length by omega]
            simp
          conv => whnf
          refine .same ?_
          conv => whnf
          refine ⟨.rs 3 ((rebL ts by').map tagE), by rw [e, show rebE ts by' = 0 by simp [rebE, hB, hlow]], .inl rfl⟩
theorem rrebase_s (ts : List Tg) (by' : Int) (hl : ts.length ≤ 1000000) (hb0 : -9223372036854775808 ≤ by') (hb1 : by' ≤ 9223372036854775807) :
    PSpec Try.prog 68 [.rs 3 (ts.map tagE), .int .i64 by'] (· = .tup [.rs 3 ((rebL ts by').map tagE), .int .i64 (rebE ts by')]) := (rrebase_r ts by' hl hb0 hb1).row2
theorem eqTag_s (ts : List Tg) (hl : ts.length ≤ 1000000) : PSpec Try.prog 69 [.rs 3 (ts.map tagE), .rs 3 (ts.map tagE)] (· = .bool true) := by
  refine .of_code' tab_ok Try.func69 (by rfl) rfl trivial ?_
  conv => whnf
  refine both_f (by simp) ?_
  conv => whnf
  refine LoopG.inv tab_ok 26 (fun i : { i : Nat // i ≤ ts.length } => [(0, .rs 3 (ts.map tagE)), (1, .rs 3 (ts.map tagE)), (5, .int .i64 (i.1 : Int))]) (fun _ => []) (fun i => ts.length - i.1) ⟨0, by omega⟩ (.of [] (by decide) ?_) ?_
  · conv => whnf
    refine ⟨by rfl, ?_⟩
    conv => whnf
    refine ⟨by rfl, ?_⟩
    conv => whnf
    refine ⟨by rfl, ?_⟩
    conv => whnf
    exact trivial
  · intro i
    have hi := i.2
    conv => whnf
    refine ⟨fun hb => ?_, fun hb => ?_⟩
    · have hb : i.1 < ts.length := by simpa using hb
      conv => whnf
      refine DrawG.of mixed tab_ok ?_
      conv => whnf
      refine ⟨by simp; omega, ?_⟩
      conv => whnf
      refine ⟨_, tg_get hb, ?_⟩
      conv => whnf
      refine ⟨by simp; omega, ?_⟩
      conv => whnf
      refine ⟨_, tg_get hb, ?_⟩
      conv => whnf
      refine ⟨by kernel_rfl, ?_⟩
      conv => whnf
      refine both_f (by simp) ?_
      conv => whnf
      refine ⟨⟨i.1 + 1, by omega⟩, by show ts.length - (i.1 + 1) < ts.length - i.1; omega, .of [] (by decide) ?_⟩
      conv => whnf
      refine ⟨by rfl, ?_⟩
      conv => whnf
      refine ⟨by rfl, ?_⟩
      conv => whnf
      refine ⟨by exact (w64 _ (by omega) (by omega)).trans (by simp), ?_⟩
      conv => whnf
      exact trivial
    · conv => whnf
      refine .same ?_
      conv => whnf
end Go.Proofs.Ythlomoacacebeab

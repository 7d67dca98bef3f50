/- What chapter 20's statements draw; its example; contracts of its statements. No statement of the seat is proved here. -/
import Derived.Test.YthlomoacacebeadAgg2
namespace Go.Proofs.Ythlomoacacebead
open Go.Sx
set_option linter.unusedSimpArgs false
set_option linter.unusedVariables false
theorem num_app (l : List Int) (z : Int) : nums l ++ [[SV.int .i64 z]] = nums (l ++ [z]) := by simp [nums]
/-! ### caps -/
def cx0 (ls : List Int) (a : Int) : Int := [1, 2, 4, 32].getD (nxt ls a 4).toNat 0
def cx1 (ls : List Int) (a : Int) : Int := [1, 350, 5000, 262144].getD (nxt ls (a + 1) 4).toNat 0
def cx2 (ls : List Int) (a : Int) : Int := [1, 400, 4000, 1048576].getD (nxt ls (a + 1 + 1) 4).toNat 0
theorem cx_ok (ls : List Int) (a : Int) : cpOk (cx0 ls a) (cx1 ls a) (cx2 ls a) = true := by
  have h0 := nxt_lo ls a 4
  have h1 := nxt_hi ls a 4 (by omega)
  have i0 := nxt_lo ls (a + 1) 4
  have i1 := nxt_hi ls (a + 1) 4 (by omega)
  have j0 := nxt_lo ls (a + 1 + 1) 4
  have j1 := nxt_hi ls (a + 1 + 1) 4 (by omega)
  have key : ∀ x : Nat, x < 4 → ∀ y : Nat, y < 4 → ∀ z : Nat, z < 4 → cpOk ([1, 2, 4, 32].getD x 0) ([1, 350, 5000, 262144].getD y 0) ([1, 400, 4000, 1048576].getD z 0) = true := by decide
  exact key _ (by omega) _ (by omega) _ (by omega)
theorem gcaps_s (ls : List Int) (at' : Int) (h0 : 0 ≤ at') (h1 : at' < 9223372036854775800) :
    OSpec Try.prog 50 [.ptr 0 0] [chs ls at'] fun s ho => s = cpE (cx0 ls at') (cx1 ls at') (cx2 ls at') ∧ ho = [chs ls (at' + 1 + 1 + 1)] := by
  refine .of_code tab_ok Try.func50 (by rfl) rfl trivial ?_
  conv => whnf
  refine DrawG.of mixed tab_ok ?_
  conv => whnf
  refine (next_s _ _ _ (by first | omega | assumption | decide | simp) (by first | omega | assumption | decide | simp) (by first | omega | assumption | decide | simp)).calld [0] (by decide) rfl (And.intro rfl trivial) (And.intro rfl trivial) ?_
  conv => whnf
  refine ⟨by exact ⟨nxt_lo _ _ _, nxt_hi _ _ _ (by omega)⟩, ?_⟩
  conv => whnf
  refine ⟨_, lit_get (l := [1, 2, 4, 32]) (nxt_lo _ _ _) (nxt_hi _ _ _ (by decide)), ?_⟩
  conv => whnf
  refine (next_s _ _ _ (by first | omega | assumption | decide | simp) (by first | omega | assumption | decide | simp) (by first | omega | assumption | decide | simp)).calld [0] (by decide) rfl (And.intro rfl trivial) (And.intro rfl trivial) ?_
  conv => whnf
  refine ⟨by exact ⟨nxt_lo _ _ _, nxt_hi _ _ _ (by omega)⟩, ?_⟩
  conv => whnf
  refine ⟨_, lit_get (l := [1, 350, 5000, 262144]) (nxt_lo _ _ _) (nxt_hi _ _ _ (by decide)), ?_⟩
  conv => whnf
  refine (next_s _ _ _ (by first | omega | assumption | decide | simp) (by first | omega | assumption | decide | simp) (by first | omega | assumption | decide | simp)).calld [0] (by decide) rfl (And.intro rfl trivial) (And.intro rfl trivial) ?_
  conv => whnf
  refine ⟨by exact ⟨nxt_lo _ _ _, nxt_hi _ _ _ (by omega)⟩, ?_⟩
  conv => whnf
  refine ⟨_, lit_get (l := [1, 400, 4000, 1048576]) (nxt_lo _ _ _) (nxt_hi _ _ _ (by decide)), ?_⟩
  conv => whnf
  refine ⟨by kernel_rfl, ?_⟩
  conv => whnf
  refine ⟨by rfl, ?_⟩
  conv => whnf
def cyk (ls : List Int) (a : Int) : Int := nxt ls (a + 1 + 1 + 1) 18
def cy0 (ls : List Int) (a : Int) : Int := if cyk ls a = 0 then [0, 33].getD (nxt ls (a + 1 + 1 + 1 + 1) 2).toNat 0 else cx0 ls a
def cy1 (ls : List Int) (a : Int) : Int := if cyk ls a = 1 then [0, 262145].getD (nxt ls (a + 1 + 1 + 1 + 1) 2).toNat 0 else cx1 ls a
def cy2 (ls : List Int) (a : Int) : Int := if cyk ls a = 2 then [0, 1048577].getD (nxt ls (a + 1 + 1 + 1 + 1) 2).toNat 0 else cx2 ls a
def cya (ls : List Int) (a : Int) : Int := if cyk ls a = 0 ∨ cyk ls a = 1 ∨ cyk ls a = 2 then a + 1 + 1 + 1 + 1 + 1 else a + 1 + 1 + 1 + 1
theorem cya_rng (ls : List Int) (a : Int) : a ≤ cya ls a ∧ cya ls a ≤ a + 5 := by unfold cya; split <;> omega
theorem lcaps_s (ls : List Int) (at' : Int) (h0 : 0 ≤ at') (h1 : at' < 9223372036854775000) :
    OSpec Try.prog 43 [.ptr 0 0] [chs ls at'] fun s ho => s = cpE (cy0 ls at') (cy1 ls at') (cy2 ls at') ∧ ho = [chs ls (cya ls at')] := by
  refine .of_code tab_ok Try.func43 (by rfl) rfl trivial ?_
  have fin1 : ∀ {w b m : Int}, w = cy0 ls at' → b = cy1 ls at' → m = cy2 ls at' → cpE w b m = cpE (cy0 ls at') (cy1 ls at') (cy2 ls at') := by
    rintro w b m rfl rfl rfl; rfl
  have fin2 : ∀ {a2 : Int}, a2 = cya ls at' → [chs ls a2] = [chs ls (cya ls at')] := by
    rintro a2 rfl; rfl
  conv => whnf
  refine (gcaps_s _ _ (by first | omega | assumption | decide | simp) (by first | omega | assumption | decide | simp)).call [0] (by decide) trivial (And.intro rfl trivial) ?_
  rintro _ _ ⟨rfl, rfl⟩
  conv => whnf
  refine (next_s _ _ _ (by first | omega | assumption | decide | simp) (by first | omega | assumption | decide | simp) (by first | omega | assumption | decide | simp)).call [0] (by decide) (And.intro rfl trivial) (And.intro rfl trivial) ?_
  rintro _ _ ⟨rfl, rfl⟩
  conv => whnf
  refine ⟨fun hh20 => ?_, fun hh20 => ?_⟩
  · simp only [decide_eq_true_eq, decide_eq_false_iff_not] at hh20
    conv => whnf
    refine (next_s _ _ _ (by first | omega | assumption | decide | simp) (by first | omega | assumption | decide | simp) (by first | omega | assumption | decide | simp)).call [0] (by decide) (And.intro rfl trivial) (And.intro rfl trivial) ?_
    rintro _ _ ⟨rfl, rfl⟩
    conv => whnf
    refine ⟨by exact ⟨nxt_lo _ _ _, nxt_hi _ _ _ (by omega)⟩, ?_⟩
    conv => whnf
    refine ⟨_, lit_get (l := [0, 33]) (nxt_lo _ _ _) (nxt_hi _ _ _ (by decide)), ?_⟩
    conv => whnf
    refine ⟨by exact fin1 (by simp only [cy0, cyk]; simp [*]) (by simp only [cy1, cyk]; simp [*]) (by simp only [cy2, cyk]; simp [*]), ?_⟩
    conv => whnf
    exact fin2 (by simp only [cya, cyk]; simp [*])
  · simp only [decide_eq_true_eq, decide_eq_false_iff_not] at hh20
    conv => whnf
    refine ⟨fun hh32 => ?_, fun hh32 => ?_⟩
    · simp only [decide_eq_true_eq, decide_eq_false_iff_not] at hh32
      conv => whnf
      refine (next_s _ _ _ (by first | omega | assumption | decide | simp) (by first | omega | assumption | decide | simp) (by first | omega | assumption | decide | simp)).call [0] (by decide) (And.intro rfl trivial) (And.intro rfl trivial) ?_
      rintro _ _ ⟨rfl, rfl⟩
      conv => whnf
      refine ⟨by exact ⟨nxt_lo _ _ _, nxt_hi _ _ _ (by omega)⟩, ?_⟩
      conv => whnf
      refine ⟨_, lit_get (l := [0, 262145]) (nxt_lo _ _ _) (nxt_hi _ _ _ (by decide)), ?_⟩
      conv => whnf
      refine ⟨by exact fin1 (by simp only [cy0, cyk]; simp [*]) (by simp only [cy1, cyk]; simp [*]) (by simp only [cy2, cyk]; simp [*]), ?_⟩
      conv => whnf
      exact fin2 (by simp only [cya, cyk]; simp [*])
    · simp only [decide_eq_true_eq, decide_eq_false_iff_not] at hh32
      conv => whnf
      refine ⟨fun hh44 => ?_, fun hh44 => ?_⟩
      · simp only [decide_eq_true_eq, decide_eq_false_iff_not] at hh44
        conv => whnf
        refine (next_s _ _ _ (by first | omega | assumption | decide | simp) (by first | omega | assumption | decide | simp) (by first | omega | assumption | decide | simp)).call [0] (by decide) (And.intro rfl trivial) (And.intro rfl trivial) ?_
        rintro _ _ ⟨rfl, rfl⟩
        conv => whnf
        refine ⟨by exact ⟨nxt_lo _ _ _, nxt_hi _ _ _ (by omega)⟩, ?_⟩
        conv => whnf
        refine ⟨_, lit_get (l := [0, 1048577]) (nxt_lo _ _ _) (nxt_hi _ _ _ (by decide)), ?_⟩
        conv => whnf
        refine ⟨by exact fin1 (by simp only [cy0, cyk]; simp [*]) (by simp only [cy1, cyk]; simp [*]) (by simp only [cy2, cyk]; simp [*]), ?_⟩
        conv => whnf
        exact fin2 (by simp only [cya, cyk]; simp [*])
      · simp only [decide_eq_true_eq, decide_eq_false_iff_not] at hh44
        conv => whnf
        refine ⟨by exact fin1 (by simp only [cy0, cyk]; simp [*]) (by simp only [cy1, cyk]; simp [*]) (by simp only [cy2, cyk]; simp [*]), ?_⟩
        conv => whnf
        exact fin2 (by simp only [cya, cyk]; simp [*])
/-! ### lengths -/
def lxl (ls : List Int) : Nat → Int → List Int → List Int
  | 0, _, acc => acc
  | k + 1, a, acc => lxl ls k (a + 1) (acc ++ [lex ls a])
theorem lxl_len (ls : List Int) : ∀ (k : Nat) (a : Int) (acc : List Int), (lxl ls k a acc).length = acc.length + k := by
  intro k
  induction k with
  | zero => intro a acc; simp [lxl]
  | succ k ih => intro a acc; simp [lxl, ih]; omega
def lnk (ls : List Int) (a n : Int) : Nat := (nxt ls a (n + 1)).toNat
def lnb (ls : List Int) (a n : Int) : List Int := lxl ls (lnk ls a n) (a + 1) []
def lnc (ls : List Int) (a n : Int) : Int := a + 1 + (lnk ls a n : Int)
def lny (ls : List Int) (a n : Int) : List Int := if lnk ls a n = 0 then lnb ls a n else if nxt ls (lnc ls a n) 8 = 0 then (lnb ls a n).set (nxt ls (lnc ls a n + 1) (lnk ls a n)).toNat ([0, -1, 4097].getD (nxt ls (lnc ls a n + 1 + 1) 3).toNat 0) else lnb ls a n
def lna (ls : List Int) (a n : Int) : Int := if lnk ls a n = 0 then lnc ls a n else if nxt ls (lnc ls a n) 8 = 0 then lnc ls a n + 1 + 1 + 1 else lnc ls a n + 1
theorem lnk_le (ls : List Int) (a n : Int) (h : 0 ≤ n) : (lnk ls a n : Int) ≤ n ∧ (lnk ls a n : Int) = nxt ls a (n + 1) := by
  have k0 := nxt_lo ls a (n + 1)
  have k1 := nxt_hi ls a (n + 1) (by omega)
  unfold lnk; omega
theorem lnb_len (ls : List Int) (a n : Int) : (lnb ls a n).length = lnk ls a n := by simp [lnb, lxl_len]
theorem lny_len (ls : List Int) (a n : Int) : (lny ls a n).length = lnk ls a n := by
  unfold lny; split
  · exact lnb_len ..
  · split
    · simp [lnb_len]
    · exact lnb_len ..
theorem lna_rng (ls : List Int) (a n : Int) (h : 0 ≤ n) : a ≤ lna ls a n ∧ lna ls a n ≤ a + n + 4 := by
  have := lnk_le ls a n h
  unfold lna lnc; split
  · omega
  · split <;> omega
theorem lny0 {ls : List Int} {a n : Int} (h : lnk ls a n = 0) : nums (lnb ls a n) = nums (lny ls a n) ∧ lnc ls a n = lna ls a n := by simp [lny, lna, h]
theorem lny1 {ls : List Int} {a n : Int} (h : lnk ls a n ≠ 0) (h2 : nxt ls (lnc ls a n) 8 = 0) {i : Int} (hi : i = (lnk ls a n : Int)) : (nums (lnb ls a n)).set (nxt ls (lnc ls a n + 1) i).toNat [SV.int .i64 ([0, -1, 4097].getD (nxt ls (lnc ls a n + 1 + 1) 3).toNat 0)] = nums (lny ls a n) ∧ lnc ls a n + 1 + 1 + 1 = lna ls a n := by
  subst hi
  simp only [lny, lna, if_neg h, if_pos h2, nums, List.map_set, and_true]
theorem lny2 {ls : List Int} {a n : Int} (h : lnk ls a n ≠ 0) (h2 : ¬ nxt ls (lnc ls a n) 8 = 0) : nums (lnb ls a n) = nums (lny ls a n) ∧ lnc ls a n + 1 = lna ls a n := by simp [lny, lna, h, h2]
theorem lengths_s (ls : List Int) (at' n : Int) (h0 : 0 ≤ at') (h1 : at' < 9223372036854775000) (n0 : 0 ≤ n) (n1 : n ≤ 140) :
    OSpec Try.prog 45 [.ptr 0 0, .int .i64 n] [chs ls at'] fun s ho => s = .rs 1 (nums (lny ls at' n)) ∧ ho = [chs ls (lna ls at' n)] := by
  refine .of_code tab_ok Try.func45 (by rfl) rfl trivial ?_
  have kk := lnk_le ls at' n n0
  have bl := lnb_len ls at' n
  have ew : IntKind.i64.wrap (n + 1) = n + 1 := w64 _ (by omega) (by omega)
  conv => whnf
  rw [ew]
  refine (next_s ls at' (n + 1) (by omega) (by omega) (by omega)).call [0] (by decide) (And.intro rfl trivial) (And.intro rfl trivial) ?_
  rintro _ _ ⟨rfl, rfl⟩
  conv => whnf
  refine LoopG.inv tab_ok 40 (fun x : { x : List Int × Nat × Int // lxl ls x.2.1 x.2.2 x.1 = lnb ls at' n ∧ x.2.2 + (x.2.1 : Int) = lnc ls at' n ∧ at' ≤ x.2.2 ∧ x.2.1 ≤ lnk ls at' n } => [(0, .ptr 0 0), (5, .sl 1), (6, .int .i64 (x.1.2.1 : Int))])
    (fun x => [chs ls x.1.2.2, .row 3 1 (nums x.1.1)]) (fun x => x.1.2.1) ⟨([], lnk ls at' n, at' + 1), rfl, rfl, by show at' ≤ at' + 1; omega, Nat.le_refl _⟩ (.of [some 0, none] (by rfl) ?_) ?_
  · conv => whnf
    refine ⟨by simp; omega, ?_⟩
    conv => whnf
    refine ⟨by rfl, ?_⟩
    conv => whnf
    refine ⟨by rfl, ?_⟩
    conv => whnf
    refine ⟨by rfl, ?_⟩
    conv => whnf
    exact trivial
  · intro x
    obtain ⟨hx1, hx2, hx3, hx4⟩ := x.2
    have hlen : x.1.1.length + x.1.2.1 = lnk ls at' n := by rw [← hx1, lxl_len] at bl; exact bl
    have hwc : lnc ls at' n ≤ at' + 141 := by unfold lnc; omega
    conv => whnf
    refine ⟨fun hb => ?_, fun hb => ?_⟩
    · have hb : (0 : Int) < (x.1.2.1 : Int) := by simpa using hb
      have e3 : IntKind.i64.wrap ((x.1.2.1 : Int) - 1) = ((x.1.2.1 - 1 : Nat) : Int) := by rw [w64 _ (by omega) (by omega)]; omega
      have e4 : lxl ls (x.1.2.1 - 1) (x.1.2.2 + 1) (x.1.1 ++ [lex ls x.1.2.2]) = lnb ls at' n := by
        refine Eq.trans ?_ hx1
        obtain ⟨m, hm⟩ : ∃ m, x.1.2.1 = m + 1 := ⟨x.1.2.1 - 1, by omega⟩
        rw [hm]; rfl
      conv => whnf
      refine (length_s _ _ (by first | omega | assumption | decide | simp) (by first | omega | assumption | decide | simp)).call [0] (by decide) trivial (And.intro rfl trivial) ?_
      rintro _ _ ⟨rfl, rfl⟩
      conv => whnf
      refine ⟨by (simp [nums_len]; omega), ?_⟩
      conv => whnf
      refine ⟨⟨(x.1.1 ++ [lex ls x.1.2.2], x.1.2.1 - 1, x.1.2.2 + 1), e4, by show x.1.2.2 + 1 + ((x.1.2.1 - 1 : Nat) : Int) = _; omega, by show at' ≤ x.1.2.2 + 1; omega, by show x.1.2.1 - 1 ≤ _; omega⟩, by show x.1.2.1 - 1 < x.1.2.1; omega, .of [some 0, some 3] (by rfl) ?_⟩
      conv => whnf
      refine ⟨by omega, ?_⟩
      conv => whnf
      refine ⟨by rfl, ?_⟩
      conv => whnf
      refine ⟨by rfl, ?_⟩
      conv => whnf
      refine ⟨by (rw [num_app]), ?_⟩
      conv => whnf
      exact trivial
    · have hb : ¬ (0 : Int) < (x.1.2.1 : Int) := by simpa using hb
      have hz : x.1.2.1 = 0 := by omega
      have e1 : x.1.1 = lnb ls at' n := by rw [hz] at hx1; exact hx1
      have e2 : x.1.2.2 = lnc ls at' n := by omega
      rw [e1, e2]
      have c1 : at' ≤ lnc ls at' n := by omega
      have el : (nums (lnb ls at' n)).length = lnk ls at' n := by rw [nums_len, bl]
      by_cases hk : lnk ls at' n = 0
      · conv => whnf
        refine .same ?_
        conv => whnf
        refine both_f (by simp [*]) ?_
        conv => whnf
        refine ⟨by exact congrArg (SV.rs 1) (lny0 hk).1, ?_⟩
        conv => whnf
        (rw [(lny0 hk).2])
      · have ni0 := nxt_lo ls (lnc ls at' n + 1) ((nums (lnb ls at' n)).length : Int)
        have ni1 := nxt_hi ls (lnc ls at' n + 1) ((nums (lnb ls at' n)).length : Int) (by omega)
        conv => whnf
        refine .same ?_
        conv => whnf
        refine both_t (by simp; omega) ?_
        conv => whnf
        refine (next_s _ _ _ (by first | omega | assumption | decide | simp) (by first | omega | assumption | decide | simp) (by first | omega | assumption | decide | simp)).call [0] (by decide) (And.intro rfl trivial) (And.intro rfl trivial) ?_
        rintro _ _ ⟨rfl, rfl⟩
        conv => whnf
        refine ⟨fun hh10 => ?_, fun hh10 => ?_⟩
        · simp only [decide_eq_true_eq, decide_eq_false_iff_not] at hh10
          conv => whnf
          refine (next_s _ _ _ (by first | omega | assumption | decide | simp) (by first | omega | assumption | decide | simp) (by first | omega | assumption | decide | simp)).call [0] (by decide) (And.intro rfl trivial) (And.intro rfl trivial) ?_
          rintro _ _ ⟨rfl, rfl⟩
          conv => whnf
          refine (next_s _ _ _ (by first | omega | assumption | decide | simp) (by first | omega | assumption | decide | simp) (by first | omega | assumption | decide | simp)).call [0] (by decide) (And.intro rfl trivial) (And.intro rfl trivial) ?_
          rintro _ _ ⟨rfl, rfl⟩
          conv => whnf
          refine ⟨by exact ⟨nxt_lo _ _ _, nxt_hi _ _ _ (by omega)⟩, ?_⟩
          conv => whnf
          refine ⟨_, lit_get (l := [0, -1, 4097]) (nxt_lo _ _ _) (nxt_hi _ _ _ (by decide)), ?_⟩
          conv => whnf
          refine ⟨by omega, ?_⟩
          conv => whnf
          refine ⟨_, ng_get (i := (nxt ls (lnc ls at' n + 1) ((nums (lnb ls at' n)).length : Int)).toNat) (by omega), ?_⟩
          conv => whnf
          refine ⟨by exact congrArg (SV.rs 1) (lny1 hk (by assumption) (by rw [el])).1, ?_⟩
          conv => whnf
          (rw [(lny1 hk (by assumption) rfl).2])
        · simp only [decide_eq_true_eq, decide_eq_false_iff_not] at hh10
          conv => whnf
          refine ⟨by exact congrArg (SV.rs 1) (lny2 hk (by assumption)).1, ?_⟩
          conv => whnf
          (rw [(lny2 hk (by assumption)).2])
end Go.Proofs.Ythlomoacacebead

/- Units are apportioned without envy; contract of SharesEnvy. No statement of the seat is proved here. -/
import Derived.Test.YthlomoacacebeabAppo
import Derived.Test.YthlomoacacebeabCut
namespace Go.Proofs.Ythlomoacacebeab
open Go.Sx
set_option linter.unusedSimpArgs false
set_option linter.unusedVariables false
theorem parts_g (ls : List Int) (at' n : Int) (h0 : 0 ≤ at') (h1 : at' < 9223372036854770000) (n0 : 0 ≤ n) (n1 : n ≤ 20) :
    GSpec Try.prog 18 [.ptr 0 0, .int .i64 n] [chs ls at'] fun s ho => ∃ (l : List (Int × Int)) (a2 : Int), s = .sl 1 ∧ ho = [chs ls a2, .row 33 2 (l.map ptR)] ∧ (l.length : Int) ≤ n ∧ at' ≤ a2 ∧ a2 ≤ at' + 1 + 4 * n ∧ ptD l (3 * n) := by
  refine .of_code tab_ok Try.func18 (by rfl) rfl ?_
  have k0 := nxt_lo ls at' (n + 1)
  have k1 := nxt_hi ls at' (n + 1) (by omega)
  have ew : IntKind.i64.wrap (n + 1) = n + 1 := w64 _ (by omega) (by omega)
  conv => whnf
  rw [ew]
  refine (next_s ls at' (n + 1) (by omega) (by omega) (by omega)).call [0] (by decide) (And.intro rfl trivial) (And.intro rfl trivial) ?_
  rintro _ _ ⟨rfl, rfl⟩
  conv => whnf
  refine LoopG.inv tab_ok 39 (fun x : { x : List (Int × Int) × Nat × Int × Int // (x.1.length : Int) + x.2.1 ≤ n ∧ at' ≤ x.2.2.1 ∧ x.2.2.1 + 4 * (x.2.1 : Int) ≤ at' + 1 + 4 * n ∧ x.2.2.2 + 3 * (x.2.1 : Int) ≤ 3 * n - 1 ∧ ptD x.1 x.2.2.2 } => [(0, .ptr 0 0), (5, .sl 1), (6, .int .i64 x.1.2.2.2), (7, .int .i64 (x.1.2.1 : Int))])
    (fun x => [chs ls x.1.2.2.1, .row 33 2 (x.1.1.map ptR)]) (fun x => x.1.2.1) ⟨([], (nxt ls at' (n + 1)).toNat, at' + 1, -1), by simp; omega, by simp; omega, by simp; omega, by simp; omega, by intro i hi; simp at hi, by simp⟩ (.of [some 0, none] (by rfl) ?_) ?_
  · conv => whnf
    refine ⟨by rfl, ?_⟩
    conv => whnf
    refine ⟨by simp; omega, ?_⟩
    conv => whnf
    refine ⟨by rfl, ?_⟩
    conv => whnf
    refine ⟨by rfl, ?_⟩
    conv => whnf
    refine ⟨by rfl, ?_⟩
    conv => whnf
    exact trivial
  · intro x
    obtain ⟨hx1, hx2, hx3, hx4, hx5⟩ := x.2
    have hx6 := hx5.2
    have m0 := nxt_lo ls x.1.2.2.1 3
    have m1 := nxt_hi ls x.1.2.2.1 3 (by omega)
    have wr := wex_rng ls (x.1.2.2.1 + 1)
    conv => whnf
    refine ⟨fun hb => ?_, fun hb => ?_⟩
    · have hb : (0 : Int) < (x.1.2.1 : Int) := by simpa using hb
      have e3 : IntKind.i64.wrap ((x.1.2.1 : Int) - 1) = ((x.1.2.1 - 1 : Nat) : Int) := by rw [w64 _ (by omega) (by omega)]; omega
      have ei : IntKind.i64.wrap (x.1.2.2.2 + IntKind.i64.wrap (1 + nxt ls x.1.2.2.1 3)) = x.1.2.2.2 + (1 + nxt ls x.1.2.2.1 3) := by rw [w64 (1 + _) (by omega) (by omega), w64 _ (by omega) (by omega)]
      have hg : (1 : Int) ≤ [2147483648, 1048576, 2147483647].getD (nxt ls (x.1.2.2.1 + 1 + 1 + 1) 3).toNat 0 ∧ [2147483648, 1048576, 2147483647].getD (nxt ls (x.1.2.2.1 + 1 + 1 + 1) 3).toNat 0 ≤ (2147483648 : Int) := by
        have h0 := nxt_lo ls (x.1.2.2.1 + 1 + 1 + 1) 3
        have h1 := nxt_hi ls (x.1.2.2.1 + 1 + 1 + 1) 3 (by omega)
        have key : ∀ j : Nat, j < 3 → (1 : Int) ≤ [2147483648, 1048576, 2147483647].getD j 0 ∧ [2147483648, 1048576, 2147483647].getD j 0 ≤ (2147483648 : Int) := by decide
        exact key _ (by omega)
      conv => whnf
      refine (next_s _ _ _ (by first | omega | assumption | decide | simp) (by first | omega | assumption | decide | simp) (by first | omega | assumption | decide | simp)).call [0] (by decide) (And.intro rfl trivial) (And.intro rfl trivial) ?_
      rintro _ _ ⟨rfl, rfl⟩
      conv => whnf
      refine (weight_s _ _ (by first | omega | assumption | decide | simp) (by first | omega | assumption | decide | simp)).call [0] (by decide) trivial (And.intro rfl trivial) ?_
      rintro _ _ ⟨rfl, rfl⟩
      conv => whnf
      refine (next_s _ _ _ (by first | omega | assumption | decide | simp) (by first | omega | assumption | decide | simp) (by first | omega | assumption | decide | simp)).call [0] (by decide) (And.intro rfl trivial) (And.intro rfl trivial) ?_
      rintro _ _ ⟨rfl, rfl⟩
      conv => whnf
      refine ⟨fun hh30 => ?_, fun hh30 => ?_⟩
      · simp only [decide_eq_true_eq, decide_eq_false_iff_not] at hh30
        conv => whnf
        refine (next_s _ _ _ (by first | omega | assumption | decide | simp) (by first | omega | assumption | decide | simp) (by first | omega | assumption | decide | simp)).call [0] (by decide) (And.intro rfl trivial) (And.intro rfl trivial) ?_
        rintro _ _ ⟨rfl, rfl⟩
        conv => whnf
        refine ⟨by exact ⟨nxt_lo _ _ _, nxt_hi _ _ _ (by omega)⟩, ?_⟩
        conv => whnf
        refine ⟨_, lit_get (l := [2147483648, 1048576, 2147483647]) (nxt_lo _ _ _) (nxt_hi _ _ _ (by decide)), ?_⟩
        conv => whnf
        refine ⟨by simp; omega, ?_⟩
        conv => whnf
        refine (have q : nxt ls (x.1.2.2.1 + 1 + 1) 6 = 5 := (by assumption); ⟨⟨(x.1.1 ++ [(x.1.2.2.2 + (1 + nxt ls x.1.2.2.1 3), [2147483648, 1048576, 2147483647].getD (nxt ls (x.1.2.2.1 + 1 + 1 + 1) 3).toNat 0)], x.1.2.1 - 1, x.1.2.2.1 + 1 + 1 + 1 + 1, x.1.2.2.2 + (1 + nxt ls x.1.2.2.1 3)), by simp; omega, by simp; omega, by simp; omega, by simp; omega, ptD_app hx5 (by omega) hg⟩, by show x.1.2.1 - 1 < x.1.2.1; omega, .of [some 0, some 4] (by rfl) ?_⟩)
        conv => whnf
        refine ⟨by omega, ?_⟩
        conv => whnf
        refine ⟨by omega, ?_⟩
        conv => whnf
        refine ⟨by rfl, ?_⟩
        conv => whnf
        refine ⟨by rfl, ?_⟩
        conv => whnf
        refine ⟨by simp; omega, ?_⟩
        conv => whnf
        exact trivial
      · simp only [decide_eq_true_eq, decide_eq_false_iff_not] at hh30
        conv => whnf
        refine ⟨by simp; omega, ?_⟩
        conv => whnf
        refine (have q : ¬ nxt ls (x.1.2.2.1 + 1 + 1) 6 = 5 := (by assumption); ⟨⟨(x.1.1 ++ [(x.1.2.2.2 + (1 + nxt ls x.1.2.2.1 3), wex ls (x.1.2.2.1 + 1))], x.1.2.1 - 1, x.1.2.2.1 + 1 + 1 + 1, x.1.2.2.2 + (1 + nxt ls x.1.2.2.1 3)), by simp; omega, by simp; omega, by simp; omega, by simp; omega, ptD_app hx5 (by omega) (by omega)⟩, by show x.1.2.1 - 1 < x.1.2.1; omega, .of [some 0, some 3] (by rfl) ?_⟩)
        conv => whnf
        refine ⟨by omega, ?_⟩
        conv => whnf
        refine ⟨by omega, ?_⟩
        conv => whnf
        refine ⟨by rfl, ?_⟩
        conv => whnf
        refine ⟨by rfl, ?_⟩
        conv => whnf
        refine ⟨by simp; omega, ?_⟩
        conv => whnf
        exact trivial
    · conv => whnf
      refine .same ?_
      conv => whnf
      refine OutG.of [some 0, some 1] (.sl 1) [chs ls x.1.2.2.1, .row 33 2 (x.1.1.map ptR)] (by rfl) ⟨x.1.1, x.1.2.2.1, rfl, rfl, by omega, by omega, by omega, ⟨fun i hi => ⟨(hx5.1 i hi).1, by have := (hx5.1 i hi).2; omega⟩, by omega⟩⟩ ?_
      conv => whnf
      refine ⟨by rfl, ?_⟩
      conv => whnf
      refine ⟨by rfl, ?_⟩
      conv => whnf
      refine ⟨by rfl, ?_⟩
      conv => whnf
      exact trivial
theorem pt60 {l : List (Int × Int)} {w : Int} (h : ptD l 12) (hl : l.length ≤ 4) (hw : 1 ≤ w ∧ w ≤ 16) : ptO (l ++ [(60, w)]) := by
  have := ptD_app (id := 60) (w := w) h (by omega) (by omega)
  exact ⟨by simp; omega, fun i hi => (this.1 i hi).1⟩
/-! ### no envy -/
theorem frac_tr {a b c x y z : Int} (hy : 0 < y) (hx : 0 < x) (hz : 0 < z) (h1 : a * y ≤ b * x) (h2 : b * z ≤ c * y) : a * z ≤ c * x := by
  have e1 : a * y * z ≤ b * x * z := Int.mul_le_mul_of_nonneg_right h1 (by omega)
  have e2 : b * z * x ≤ c * y * x := Int.mul_le_mul_of_nonneg_right h2 (by omega)
  have e3 : a * z * y ≤ c * x * y := by
    have q1 : a * z * y = a * y * z := by rw [Int.mul_right_comm]
    have q2 : c * x * y = c * y * x := by rw [Int.mul_right_comm]
    have q3 : b * x * z = b * z * x := by rw [Int.mul_right_comm]
    rw [q1, q2]; omega
  exact Int.le_of_mul_le_mul_right e3 hy
theorem apB_min {l : List (Int × Int)} (h : ptO l) (xs : List Int) : ∀ i, i ≤ l.length → ∀ j, j < i → (gx xs (apB xs l i) + 1) * (gp l j).2 ≤ (gx xs j + 1) * (gp l (apB xs l i)).2 := by
  intro i
  induction i with
  | zero => intro _ j hj; omega
  | succ i ih =>
    intro hi j hj
    have wi := (h.2 i (by omega)).2.1
    simp only [apB]
    by_cases hc : (gx xs i + 1) * (gp l (apB xs l i)).2 < (gx xs (apB xs l i) + 1) * (gp l i).2
    · rw [if_pos hc]
      by_cases e : j = i
      · subst e; omega
      · have hj' : j < i := by omega
        have := ih (by omega) j hj'
        have hb : apB xs l i < i := apB_lt xs l i (by omega)
        exact frac_tr (h.2 _ (by omega)).2.1 wi (h.2 j (by omega)).2.1 (by omega) this
    · rw [if_neg hc]
      by_cases e : j = i
      · subst e; omega
      · exact ih (by omega) j (by omega)
theorem ap_envy {l : List (Int × Int)} (h : ptO l) (h0 : l.length ≠ 0) : ∀ m i k, i < l.length → k < l.length → 0 < gx (apN l m) i → gx (apN l m) i * (gp l k).2 ≤ (gx (apN l m) k + 1) * (gp l i).2 := by
  intro m
  induction m with
  | zero =>
    intro i k hi hk hp
    have := (apN_rng h0 0 i).2
    omega
  | succ m ih =>
    intro i k hi hk hp
    have hb := apB_lt (apN l m) l l.length (by omega)
    have hs : ∀ q, gx (apN l (m + 1)) q = if q = apB (apN l m) l l.length then gx (apN l m) (apB (apN l m) l l.length) + 1 else gx (apN l m) q := fun q => gx_set (by rw [apN_len]; exact hb) _
    have up : ∀ q, gx (apN l m) q ≤ gx (apN l (m + 1)) q := fun q => by rw [hs]; split <;> (first | (rename_i e; rw [e]; omega) | omega)
    have wi := (h.2 i hi).2.1
    have mono : (gx (apN l m) k + 1) * (gp l i).2 ≤ (gx (apN l (m + 1)) k + 1) * (gp l i).2 := Int.mul_le_mul_of_nonneg_right (by have := up k; omega) (by omega)
    rw [hs i] at hp ⊢
    by_cases e : i = apB (apN l m) l l.length
    · rw [if_pos e]
      have := apB_min h (apN l m) l.length (Nat.le_refl _) k hk
      rw [← e] at this ⊢
      omega
    · rw [if_neg e] at hp ⊢
      have := ih i k hi hk hp
      omega
def psum (xs : List Int) : Nat → Int
  | 0 => 0
  | i + 1 => psum xs i + gx xs i
theorem psum_set {xs : List Int} {b : Nat} (hb : b < xs.length) (v : Int) : ∀ i, psum (xs.set b v) i = psum xs i + (if b < i then v - gx xs b else 0) := by
  intro i
  induction i with
  | zero => simp [psum]
  | succ i ih =>
    simp only [psum]
    rw [ih, gx_set hb]
    by_cases e : i = b
    · subst e; rw [if_pos rfl, if_neg (by omega), if_pos (by omega)]; omega
    · rw [if_neg e]
      by_cases h2 : b < i
      · rw [if_pos h2, if_pos (by omega)]; omega
      · rw [if_neg h2, if_neg (by omega)]; omega
theorem psum_ap {l : List (Int × Int)} (h0 : l.length ≠ 0) : ∀ m, psum (apN l m) l.length = m := by
  intro m
  induction m with
  | zero =>
    have key : ∀ i, psum (apN l 0) i = 0 := by
      intro i
      induction i with
      | zero => rfl
      | succ i ih => simp only [psum]; rw [ih]; have := apN_rng h0 0 i; omega
    exact key _
  | succ m ih =>
    have hb := apB_lt (apN l m) l l.length (by omega)
    simp only [apN, apS]
    rw [psum_set (by rw [apN_len]; exact hb), if_pos hb, ih]; omega
theorem psum_rng {l : List (Int × Int)} (h0 : l.length ≠ 0) (m : Nat) : ∀ i, 0 ≤ psum (apN l m) i ∧ psum (apN l m) i ≤ (m : Int) * i := by
  intro i
  induction i with
  | zero => simp [psum]
  | succ i ih =>
    simp only [psum]
    have := apN_rng h0 m i
    rw [show ((i + 1 : Nat) : Int) = (i : Int) + 1 by omega, Int.mul_add]; omega
theorem sharesEnvy_s (ls : List Int) : PSpec Try.prog 4 [.rs 1 (nums ls)] TrueS := by
  refine .of_cut tab_ok 4 Try.func4 (by rfl) rfl trivial ?_
  conv => whnf
  refine CallG.of_code tab_ok Try.func15 (by rfl) rfl ?_
  conv => whnf
  refine (parts_g ls 0 4 (by omega) (by omega) (by decide) (by decide)).call [0, 1] (by rfl) (And.intro rfl trivial) (And.intro rfl (And.intro rfl trivial)) ?_
  rintro _ _ ⟨us, a2, rfl, rfl, hu1, hu2, hu3, hu4⟩
  have wr := wex_rng ls a2
  conv => whnf
  refine (weight_s _ _ (by omega) (by omega)).call [0] (by decide) trivial (And.intro rfl trivial) ?_
  rintro _ _ ⟨rfl, rfl⟩
  conv => whnf
  refine ⟨by simp; omega, ?_⟩
  conv => whnf
  rw [pt_app]
  have hO := pt60 hu4 (by omega) wr
  generalize hp : us ++ [(60, wex ls a2)] = ps at *
  have hn : ps.length ≤ 5 := by rw [← hp]; simp; omega
  have h0 : ps.length ≠ 0 := by rw [← hp]; simp
  have hl : (ps.map ptR).length = ps.length := by simp
  have n0 := nxt_lo ls (a2 + 1) 60
  have n1 := nxt_hi ls (a2 + 1) 60 (by omega)
  conv => whnf
  refine (next_s _ _ _ (by first | omega | assumption | decide | simp) (by first | omega | assumption | decide | simp) (by first | omega | assumption | decide | simp)).call [0] (by decide) (And.intro rfl trivial) (And.intro rfl trivial) ?_
  rintro _ _ ⟨rfl, rfl⟩
  generalize hN : nxt ls (a2 + 1) 60 = n at *
  have hA : apO n ps := ⟨hO, by omega, by omega⟩
  obtain ⟨y1, y2⟩ := ap_yes hA h0
  have s1 := PSpec.row2 (apportion_r n ps (by omega))
  have xl := apN_len ps n.toNat
  have xr := apN_rng h0 n.toNat
  have nl := nums_len (apN ps n.toNat)
  have en := fun i k => ap_envy hO h0 n.toNat i k
  have ps0 := psum_ap h0 n.toNat
  have pr := psum_rng h0 n.toNat
  conv => whnf
  refine XG.freeze 3 ?_
  conv => whnf
  refine .same ?_
  conv => whnf
  refine s1.call ?_
  rintro _ rfl
  rw [y1, y2]
  generalize hX : apN ps n.toNat = xs at *
  conv => whnf
  refine both_f rfl ?_
  conv => whnf
  refine both_f (by rw [nl, hl, xl]; simp) ?_
  conv => whnf
  refine LoopG.inv tab_ok 97 (fun i : { i : Nat // i ≤ ps.length } => [(4, .rs 2 (ps.map ptR)), (5, .int .i64 n), (6, .rs 1 (nums xs)), (8, .int .i64 (psum xs i.1)), (9, .int .i64 (i.1 : Int))])
    (fun _ => []) (fun i => ps.length - i.1) ⟨0, by omega⟩ (.of [] (by rfl) ?_) ?_
  · conv => whnf
    refine ⟨by rfl, ?_⟩
    conv => whnf
    refine ⟨by rfl, ?_⟩
    conv => whnf
    refine ⟨by rfl, ?_⟩
    conv => whnf
    refine ⟨by rfl, ?_⟩
    conv => whnf
    refine ⟨by rfl, ?_⟩
    conv => whnf
    exact trivial
  · intro i
    have hi := i.2
    have pi := pr i.1
    have pb : (n.toNat : Int) * (i.1 : Int) ≤ 59 * 5 := Int.mul_le_mul (by omega) (by omega) (by omega) (by omega)
    conv => whnf
    refine ⟨fun hb => ?_, fun hb => ?_⟩
    · have hb : i.1 < ps.length := by rw [nl, xl] at hb; simpa using hb
      have xi := xr i.1
      have ew : IntKind.i64.wrap (psum xs i.1 + gx xs i.1) = psum xs (i.1 + 1) := w64 _ (by omega) (by omega)
      conv => whnf
      refine ⟨by omega, ?_⟩
      conv => whnf
      refine ⟨_, nget (xs := xs) (i := i.1) (by omega), ?_⟩
      conv => whnf
      refine LoopG.inv tab_ok 97 (fun k : { k : Nat // k ≤ ps.length } => [(4, .rs 2 (ps.map ptR)), (5, .int .i64 n), (6, .rs 1 (nums xs)), (8, .int .i64 (psum xs (i.1 + 1))), (9, .int .i64 (i.1 : Int)), (10, .int .i64 (k.1 : Int))])
        (fun _ => []) (fun k => ps.length - k.1) ⟨0, by omega⟩ (.of [] (by rfl) ?_) ?_
      · conv => whnf
        refine ⟨by rfl, ?_⟩
        conv => whnf
        refine ⟨by rfl, ?_⟩
        conv => whnf
        refine ⟨by rfl, ?_⟩
        conv => whnf
        refine ⟨by omega, ?_⟩
        conv => whnf
        refine ⟨by rfl, ?_⟩
        conv => whnf
        refine ⟨by rfl, ?_⟩
        conv => whnf
        exact trivial
      · intro k
        have hk := k.2
        conv => whnf
        refine ⟨fun hc => ?_, fun hc => ?_⟩
        · have hc : k.1 < ps.length := by rw [nl, xl] at hc; simpa using hc
          have wi := hO.2 i.1 hb
          have wk := hO.2 k.1 hc
          have xk := xr k.1
          obtain ⟨m1, m2, m3, m4⟩ := ap_mul (x := gx xs k.1) (w := (gp ps i.1).2) xk.1 (by omega) wi.2.1 wi.2.2
          have q0 : 0 ≤ gx xs i.1 * (gp ps k.1).2 := Int.mul_nonneg xi.1 (by have := wk.2.1; omega)
          have q1 : gx xs i.1 * (gp ps k.1).2 ≤ 59 * 2147483648 := Int.mul_le_mul (by omega) wk.2.2 (by have := wk.2.1; omega) (by omega)
          have m5 : IntKind.i64.wrap (gx xs i.1 * (gp ps k.1).2) = gx xs i.1 * (gp ps k.1).2 := w64 _ (by omega) (by omega)
          have ee := en i.1 k.1 hb hc
          have xi' : 0 ≤ xs.getD i.1 0 := xi.1
          conv => whnf
          refine DrawG.of mixed tab_ok ?_
          conv => whnf
          refine ⟨by omega, ?_⟩
          conv => whnf
          refine ⟨_, nget (xs := xs) (i := i.1) (by omega), ?_⟩
          conv => whnf
          refine both_f (by exact decide_eq_false (by omega)) ?_
          conv => whnf
          refine ⟨by omega, ?_⟩
          conv => whnf
          refine ⟨_, nget (xs := xs) (i := i.1) (by omega), ?_⟩
          conv => whnf
          refine ⟨fun hh2 => ?_, fun hh2 => ?_⟩
          · simp only [decide_eq_true_eq, decide_eq_false_iff_not] at hh2
            conv => whnf
            refine ⟨by omega, ?_⟩
            conv => whnf
            refine ⟨_, nget (xs := xs) (i := i.1) (by omega), ?_⟩
            conv => whnf
            refine ⟨by omega, ?_⟩
            conv => whnf
            refine ⟨_, gp_get hc, ?_⟩
            conv => whnf
            refine ⟨by omega, ?_⟩
            conv => whnf
            refine ⟨_, nget (xs := xs) (i := k.1) (by omega), ?_⟩
            conv => whnf
            refine ⟨by omega, ?_⟩
            conv => whnf
            refine ⟨_, gp_get hb, ?_⟩
            conv => whnf
            refine ⟨by kernel_rfl, ?_⟩
            conv => whnf
            refine both_f (by rw [m5, m1, m2]; exact decide_eq_false (by have := ee (by assumption); omega)) ?_
            conv => whnf
            refine ⟨⟨k.1 + 1, by omega⟩, by show ps.length - (k.1 + 1) < ps.length - k.1; omega, .of [] (by rfl) ?_⟩
            conv => whnf
            refine ⟨by rfl, ?_⟩
            conv => whnf
            refine ⟨by rfl, ?_⟩
            conv => whnf
            refine ⟨by rfl, ?_⟩
            conv => whnf
            refine ⟨by rfl, ?_⟩
            conv => whnf
            refine ⟨by rfl, ?_⟩
            conv => whnf
            refine ⟨by exact (w64 _ (by omega) (by omega)).trans (by simp), ?_⟩
            conv => whnf
            exact trivial
          · simp only [decide_eq_true_eq, decide_eq_false_iff_not] at hh2
            conv => whnf
            refine ⟨by kernel_rfl, ?_⟩
            conv => whnf
            refine ⟨⟨k.1 + 1, by omega⟩, by show ps.length - (k.1 + 1) < ps.length - k.1; omega, .of [] (by rfl) ?_⟩
            conv => whnf
            refine ⟨by rfl, ?_⟩
            conv => whnf
            refine ⟨by rfl, ?_⟩
            conv => whnf
            refine ⟨by rfl, ?_⟩
            conv => whnf
            refine ⟨by rfl, ?_⟩
            conv => whnf
            refine ⟨by rfl, ?_⟩
            conv => whnf
            refine ⟨by exact (w64 _ (by omega) (by omega)).trans (by simp), ?_⟩
            conv => whnf
            exact trivial
        · conv => whnf
          refine .same ?_
          conv => whnf
          refine ⟨⟨i.1 + 1, by omega⟩, by show ps.length - (i.1 + 1) < ps.length - i.1; omega, .of [] (by rfl) ?_⟩
          conv => whnf
          refine ⟨by rfl, ?_⟩
          conv => whnf
          refine ⟨by rfl, ?_⟩
          conv => whnf
          refine ⟨by rfl, ?_⟩
          conv => whnf
          refine ⟨by rfl, ?_⟩
          conv => whnf
          refine ⟨by exact (w64 _ (by omega) (by omega)).trans (by simp), ?_⟩
          conv => whnf
          exact trivial
    · have hb : i.1 = ps.length := by rw [nl, xl] at hb; simp at hb; omega
      have e : psum xs i.1 = n := by rw [hb, ps0]; omega
      rw [e]
      conv => whnf
      refine .same ?_
      conv => whnf
      refine both_t (by simp) ?_
      conv => whnf
      refine (awake3_s).call ?_
      rintro _ rfl
      conv => whnf
end Go.Proofs.Ythlomoacacebeab

/- Jain's index and its reference; contract of FairnessJain. No statement of the seat is proved here. -/
import Derived.Test.YthlomoacacebeacWorst
import Derived.Test.YthlomoacacebeacWideCmp
namespace Go.Proofs.Ythlomoacacebeac
open Go.Sx
set_option linter.unusedSimpArgs false
set_option linter.unusedVariables false
abbrev wdC (v : Int) : List SV := [.int .u64 (v / 18446744073709551616), .int .u64 (v % 18446744073709551616)]
abbrev wdE (v : Int) : SV := .agg (wdC v)
theorem wd_add {x y : Int} (x0 : 0 ≤ x) (y0 : 0 ≤ y) (h : x + y < 340282366920938463463374607431768211456) :
    IntKind.u64.wrap (addHi (x / 18446744073709551616) (x % 18446744073709551616) (y % 18446744073709551616) + y / 18446744073709551616) = (x + y) / 18446744073709551616 ∧
    addLo (x % 18446744073709551616) (y % 18446744073709551616) = (x + y) % 18446744073709551616 := by
  rw [IntKind.wrap_u64]; unfold addHi addLo; omega
theorem wdE_of {a b v : Int} (h1 : a = v / 18446744073709551616) (h2 : b = v % 18446744073709551616) : SV.agg [.int .u64 a, .int .u64 b] = wdE v := by rw [h1, h2]
theorem fsum_s (x y : Int) (x0 : 0 ≤ x) (y0 : 0 ≤ y) (h : x + y < 340282366920938463463374607431768211456) : PSpec Try.prog 78 [wdE x, wdE y] (· = wdE (x + y)) := by
  refine .of_code' tab_ok Try.func78 (by rfl) rfl trivial ?_
  obtain ⟨e1, e2⟩ := wd_add x0 y0 h
  conv => whnf
  refine (wadd_s _ _ _ (by first | omega | assumption | decide | simp) (by first | omega | assumption | decide | simp) (by first | omega | assumption | decide | simp) (by first | omega | assumption | decide | simp) (by first | omega | assumption | decide | simp)).call ?_
  rintro _ rfl
  conv => whnf
  exact wdE_of e1 e2
/-- A sample's service in the index. -/
def svx (l : List (Int × Int × Int)) (i : Nat) : Int := nov (gs l i).2.1 (gs l i).1 / 1024
def svT (l : List (Int × Int × Int)) : Nat → Int
  | 0 => 0
  | i + 1 => svT l i + svx l i
def svQ (l : List (Int × Int × Int)) : Nat → Int
  | 0 => 0
  | i + 1 => svQ l i + svx l i * svx l i
theorem nov_sm {w b m : Int} (h : smpOk w b m = true) : 0 ≤ nov b w ∧ nov b w ≤ 1547734466396160 := by
  obtain ⟨hw, ⟨b0, b1⟩, _⟩ := (smpOk_iff w b m).1 h
  obtain ⟨_, u0, u1⟩ := unit_rng hw
  have e : nov b w = b * unit w := by unfold nov; exact if_pos ⟨by omega, by omega, (wty_iff w).2 hw⟩
  rw [e]
  have h0 : 0 ≤ b * unit w := Int.mul_nonneg b0 (by omega)
  have h1 : b * unit w ≤ 2147483648 * 720720 := Int.mul_le_mul b1 u1 (by omega) (by omega)
  omega
theorem svx_rng {l : List (Int × Int × Int)} (h : allS l) {i : Nat} (hi : i < l.length) : 0 ≤ svx l i ∧ svx l i ≤ 1511459440000 := by
  have := nov_sm (h i hi)
  unfold svx; omega
theorem svT_rng {l : List (Int × Int × Int)} (h : allS l) : ∀ i, i ≤ l.length → 0 ≤ svT l i ∧ svT l i ≤ 1511459440000 * (i : Int) := by
  intro i
  induction i with
  | zero => intro _; simp [svT]
  | succ i ih =>
    intro hi
    have := ih (by omega)
    have := svx_rng h (i := i) (by omega)
    simp only [svT]; omega
theorem svq_rng {l : List (Int × Int × Int)} (h : allS l) {i : Nat} (hi : i < l.length) : 0 ≤ svx l i * svx l i ∧ svx l i * svx l i ≤ 2284509638769171136000000 := by
  obtain ⟨b0, b1⟩ := svx_rng h hi
  have : svx l i * svx l i ≤ 1511459440000 * 1511459440000 := Int.mul_le_mul b1 b1 b0 (by omega)
  have : 0 ≤ svx l i * svx l i := Int.mul_nonneg b0 b0
  omega
theorem svQ_rng {l : List (Int × Int × Int)} (h : allS l) : ∀ i, i ≤ l.length → 0 ≤ svQ l i ∧ svQ l i ≤ 2284509638769171136000000 * (i : Int) := by
  intro i
  induction i with
  | zero => intro _; simp [svQ]
  | succ i ih =>
    intro hi
    have := ih (by omega)
    have := svq_rng h (i := i) (by omega)
    simp only [svQ]; omega
open Classical in
noncomputable def jnN (l : List (Int × Int × Int)) : Int := if usO l ∧ l.length ≠ 0 then svT l l.length * svT l l.length else 0
open Classical in
noncomputable def jnD (l : List (Int × Int × Int)) : Int := if usO l ∧ l.length ≠ 0 then (l.length : Int) * svQ l l.length else 0
theorem jn_no {l : List (Int × Int × Int)} (h : ¬ usO l) : jnN l = 0 ∧ jnD l = 0 ∧ use l 1 = 1 := ⟨if_neg fun q => h q.1, if_neg fun q => h q.1, (us_no 1 h).1⟩
theorem jn_nil {l : List (Int × Int × Int)} (h : usO l) (h0 : l.length = 0) : jnN l = 0 ∧ jnD l = 0 ∧ use l 1 = 5 := ⟨if_neg fun q => q.2 h0, if_neg fun q => q.2 h0, by rw [(us_yes 1 h).1, if_pos (by omega)]⟩
theorem jn_yes {l : List (Int × Int × Int)} (h : usO l) (h0 : l.length ≠ 0) : jnN l = svT l l.length * svT l l.length ∧ jnD l = (l.length : Int) * svQ l l.length ∧ use l 1 = 0 := ⟨if_pos ⟨h, h0⟩, if_pos ⟨h, h0⟩, by rw [(us_yes 1 h).1, if_neg (by omega)]⟩
theorem jn_x {l : List (Int × Int × Int)} (h : allS l) {i : Nat} (hi : i < l.length) : Int.tdiv (IntKind.u64.wrap (nov (gs l i).2.1 (gs l i).1)) 1024 = svx l i ∧ IntKind.u64.wrap (Int.tdiv (IntKind.u64.wrap (nov (gs l i).2.1 (gs l i).1)) 1024) = svx l i ∧
    IntKind.u64.wrap (IntKind.i64.wrap (Int.tdiv (nov (gs l i).2.1 (gs l i).1) 1024)) = svx l i := by
  have a := nov_sm (h i hi)
  have b := svx_rng h hi
  have w : IntKind.u64.wrap (nov (gs l i).2.1 (gs l i).1) = nov (gs l i).2.1 (gs l i).1 := by rw [IntKind.wrap_u64]; omega
  have e1 : Int.tdiv (nov (gs l i).2.1 (gs l i).1) 1024 = svx l i := Int.tdiv_eq_ediv_of_nonneg a.1
  rw [w, e1]
  exact ⟨rfl, by rw [IntKind.wrap_u64]; omega, by rw [w64 _ (by omega) (by omega), IntKind.wrap_u64]; omega⟩
theorem jain_s (l : List (Int × Int × Int)) (hlen : l.length ≤ 1000000) : PSpec Try.prog 31 [.rs 3 (l.map smpR)] (· = .tup [wdE (jnN l), wdE (jnD l), .int .i64 (use l 1)]) := by
  refine .of_code' tab_ok Try.func31 (by rfl) rfl trivial ?_
  have hl : (l.map smpR).length = l.length := by simp
  by_cases hO : usO l
  · by_cases h0 : l.length = 0
    · obtain ⟨y1, y2, y3⟩ := jn_nil hO h0
      rw [y1, y2, y3]
      conv => whnf
      refine (usable_s _ (by first | omega | assumption | decide | simp) _).call ?_
      rintro _ rfl
      rw [y3]
      conv => whnf
      refine both_t rfl ?_
      conv => whnf
      rfl
    · obtain ⟨y1, y2, y3⟩ := jn_yes hO h0
      rw [y1, y2, y3]
      have hS := hO.2
      have h32 := hO.1
      conv => whnf
      refine (usable_s _ (by first | omega | assumption | decide | simp) _).call ?_
      rintro _ rfl
      rw [y3]
      conv => whnf
      refine both_f rfl ?_
      conv => whnf
      refine LoopG.inv tab_ok 52 (fun i : { i : Nat // i ≤ l.length } => [(0, .rs 3 (l.map smpR)), (2, .ptr 0 0), (3, .ptr 1 0), (6, .int .u64 (svT l i.1)), (7, .ptr 2 0), (8, .ptr 3 0), (19, .rs 3 (l.map smpR)), (20, .int .i64 ((l.map smpR).length : Int)), (21, .int .i64 (i.1 : Int))])
        (fun i => [.fix 52 [.int .u64 0, .int .u64 0], .fix 52 [.int .u64 0, .int .u64 0], .fix 52 (wdC (svQ l i.1)), .fix 52 [.int .u64 0, .int .u64 0]]) (fun i => l.length - i.1) ⟨0, by omega⟩ (.of [some 0, some 1, some 2, some 3] (by rfl) ?_) ?_
      · conv => whnf
        refine ⟨by rfl, ?_⟩
        conv => whnf
        refine ⟨by rfl, ?_⟩
        conv => whnf
        refine ⟨by rfl, ?_⟩
        conv => whnf
        refine ⟨by rfl, ?_⟩
        conv => whnf
        refine ⟨by rfl, ?_⟩
        conv => whnf
        refine ⟨by rfl, ?_⟩
        conv => whnf
        refine ⟨by rfl, ?_⟩
        conv => whnf
        refine ⟨by rfl, ?_⟩
        conv => whnf
        refine ⟨by rfl, ?_⟩
        conv => whnf
        refine ⟨by rfl, ?_⟩
        conv => whnf
        refine ⟨by rfl, ?_⟩
        conv => whnf
        refine ⟨by rfl, ?_⟩
        conv => whnf
        refine ⟨by rfl, ?_⟩
        conv => whnf
        exact trivial
      · intro i
        have hi := i.2
        have tr := svT_rng hS i.1 hi
        have qr := svQ_rng hS i.1 hi
        conv => whnf
        refine ⟨fun hb => ?_, fun hb => ?_⟩
        · have hb : i.1 < l.length := by simpa [hl] using hb
          obtain ⟨x1, x2, x3⟩ := jn_x hS hb
          have xr := svx_rng hS hb
          have xq := svq_rng hS hb
          have eT : IntKind.u64.wrap (svT l i.1 + svx l i.1) = svT l (i.1 + 1) := by rw [IntKind.wrap_u64]; simp only [svT]; omega
          conv => whnf
          refine ⟨by omega, ?_⟩
          conv => whnf
          refine ⟨_, gs_get hb, ?_⟩
          conv => whnf
          refine (fnorm_s _ _ _ _).call ?_
          rintro _ rfl
          conv => whnf
          refine ⟨by omega, ?_⟩
          rw [x2]
          conv => whnf
          refine DrawG.of mixed tab_ok ?_
          conv => whnf
          refine (wmul_s _ _ (by first | omega | assumption | decide | simp) (by first | omega | assumption | decide | simp) (by first | omega | assumption | decide | simp) (by first | omega | assumption | decide | simp)).calld ?_
          conv => whnf
          refine (fsum_s _ _ (by first | omega | assumption | decide | simp) (by first | omega | assumption | decide | simp) (by first | omega | assumption | decide | simp)).calld ?_
          conv => whnf
          refine ⟨by kernel_rfl, ?_⟩
          conv => whnf
          refine ⟨⟨i.1 + 1, by omega⟩, by show l.length - (i.1 + 1) < l.length - i.1; omega, .of [some 0, some 1, some 2, some 3] (by rfl) ?_⟩
          conv => whnf
          refine ⟨by rfl, ?_⟩
          conv => whnf
          refine ⟨by omega, ?_⟩
          conv => whnf
          refine ⟨by rfl, ?_⟩
          conv => whnf
          refine ⟨by rfl, ?_⟩
          conv => whnf
          refine ⟨by exact (w64 _ (by omega) (by omega)).trans (by simp), ?_⟩
          conv => whnf
          refine ⟨by rfl, ?_⟩
          conv => whnf
          refine ⟨by rfl, ?_⟩
          conv => whnf
          refine ⟨by rfl, ?_⟩
          conv => whnf
          refine ⟨by rfl, ?_⟩
          conv => whnf
          refine ⟨by rfl, ?_⟩
          conv => whnf
          refine ⟨by rfl, ?_⟩
          conv => whnf
          refine ⟨by rfl, ?_⟩
          conv => whnf
          refine ⟨by rfl, ?_⟩
          conv => whnf
          exact trivial
        · have hb : i.1 = l.length := by simp [hl] at hb; omega
          rw [hb] at tr qr
          rw [hb]
          conv => whnf
          refine .same ?_
          conv => whnf
          refine LoopG.inv tab_ok 52 (fun i : { i : Nat // i ≤ l.length } => [(2, .ptr 0 0), (3, .ptr 1 0), (6, .int .u64 (svT l l.length)), (7, .ptr 2 0), (8, .ptr 3 0), (41, .int .i64 ((l.map smpR).length : Int)), (42, .int .i64 (i.1 : Int))])
            (fun i => [.fix 52 [.int .u64 0, .int .u64 0], .fix 52 [.int .u64 0, .int .u64 0], .fix 52 (wdC (svQ l l.length)), .fix 52 (wdC ((i.1 : Int) * svQ l l.length))]) (fun i => l.length - i.1) ⟨0, by omega⟩ (.of [some 0, some 1, some 2, some 3] (by rfl) ?_) ?_
          · conv => whnf
            refine ⟨by rfl, ?_⟩
            conv => whnf
            refine ⟨by rfl, ?_⟩
            conv => whnf
            refine ⟨by rfl, ?_⟩
            conv => whnf
            refine ⟨by rfl, ?_⟩
            conv => whnf
            refine ⟨by rfl, ?_⟩
            conv => whnf
            refine ⟨by rfl, ?_⟩
            conv => whnf
            refine ⟨by rfl, ?_⟩
            conv => whnf
            refine ⟨by rfl, ?_⟩
            conv => whnf
            refine ⟨by rfl, ?_⟩
            conv => whnf
            refine ⟨by simp, ?_⟩
            conv => whnf
            refine ⟨by simp, ?_⟩
            conv => whnf
            exact trivial
          · intro i
            have hi := i.2
            have m0 : 0 ≤ (i.1 : Int) * svQ l l.length := Int.mul_nonneg (by omega) (by omega)
            have m1 : (i.1 : Int) * svQ l l.length ≤ 32 * (2284509638769171136000000 * 32) := Int.mul_le_mul (by omega) (by omega) (by omega) (by omega)
            have e1 : (i.1 : Int) * svQ l l.length + svQ l l.length = ((i.1 + 1 : Nat) : Int) * svQ l l.length := by rw [show ((i.1 + 1 : Nat) : Int) = (i.1 : Int) + 1 by omega, Int.add_mul]; omega
            conv => whnf
            refine ⟨fun hb => ?_, fun hb => ?_⟩
            · have hb : i.1 < l.length := by simpa [hl] using hb
              conv => whnf
              refine (fsum_s _ _ (by first | omega | assumption | decide | simp) (by first | omega | assumption | decide | simp) (by first | omega | assumption | decide | simp)).call ?_
              rintro _ rfl
              conv => whnf
              refine ⟨⟨i.1 + 1, by omega⟩, by show l.length - (i.1 + 1) < l.length - i.1; omega, .of [some 0, some 1, some 2, some 3] (by rfl) ?_⟩
              conv => whnf
              refine ⟨by rfl, ?_⟩
              conv => whnf
              refine ⟨by rfl, ?_⟩
              conv => whnf
              refine ⟨by exact (w64 _ (by omega) (by omega)).trans (by simp), ?_⟩
              conv => whnf
              refine ⟨by rfl, ?_⟩
              conv => whnf
              refine ⟨by rfl, ?_⟩
              conv => whnf
              refine ⟨by rfl, ?_⟩
              conv => whnf
              refine ⟨by rfl, ?_⟩
              conv => whnf
              refine ⟨by rfl, ?_⟩
              conv => whnf
              refine ⟨by rfl, ?_⟩
              conv => whnf
              refine ⟨by simp [*], ?_⟩
              conv => whnf
              refine ⟨by simp [*], ?_⟩
              conv => whnf
              exact trivial
            · have hb : i.1 = l.length := by simp [hl] at hb; omega
              rw [hb]
              conv => whnf
              refine .same ?_
              conv => whnf
              refine DrawG.of mixed tab_ok ?_
              conv => whnf
              refine (wmul_s _ _ (by first | omega | assumption | decide | simp) (by first | omega | assumption | decide | simp) (by first | omega | assumption | decide | simp) (by first | omega | assumption | decide | simp)).calld ?_
              conv => whnf
              refine ⟨by kernel_rfl, ?_⟩
              conv => whnf
  · obtain ⟨y1, y2, y3⟩ := jn_no hO
    rw [y1, y2, y3]
    conv => whnf
    refine (usable_s _ (by first | omega | assumption | decide | simp) _).call ?_
    rintro _ rfl
    rw [y3]
    conv => whnf
    refine both_t rfl ?_
    conv => whnf
    rfl
theorem rjain_s (l : List (Int × Int × Int)) (hlen : l.length ≤ 1000000) : PSpec Try.prog 76 [.rs 3 (l.map smpR)] (· = .tup [wdE (jnN l), wdE (jnD l), .int .i64 (use l 1)]) := by
  refine .of_code' tab_ok Try.func76 (by rfl) rfl trivial ?_
  have hl : (l.map smpR).length = l.length := by simp
  by_cases hO : usO l
  · have hB := (us_yes 0 hO).2
    by_cases h0 : l.length = 0
    · obtain ⟨y1, y2, y3⟩ := jn_nil hO h0
      rw [y1, y2, y3]
      conv => whnf
      refine (rsamples_s _ (by first | omega | assumption | decide | simp)).call ?_
      rintro _ rfl
      conv => whnf
      refine both_f (by simp; omega) ?_
      conv => whnf
      refine both_t (by simp [*]) ?_
      conv => whnf
      rfl
    · obtain ⟨y1, y2, y3⟩ := jn_yes hO h0
      rw [y1, y2, y3]
      have hS := hO.2
      have h32 := hO.1
      conv => whnf
      refine (rsamples_s _ (by first | omega | assumption | decide | simp)).call ?_
      rintro _ rfl
      conv => whnf
      refine both_f (by rw [hB]; rfl) ?_
      conv => whnf
      refine both_f (by rw [hl]; exact decide_eq_false (by omega)) ?_
      conv => whnf
      refine LoopG.inv tab_ok 69 (fun k : { k : Nat // k ≤ l.length } => [(0, .rs 3 (l.map smpR)), (2, .ptr 0 0), (3, .ptr 1 0), (5, .int .u64 (svT l k.1)), (6, .ptr 2 0), (7, .int .i64 (k.1 : Int))])
        (fun k => [.fix 52 [.int .u64 0, .int .u64 0], .fix 52 [.int .u64 0, .int .u64 0], .fix 52 (wdC ((k.1 : Int) * svQ l l.length))]) (fun k => l.length - k.1) ⟨0, by omega⟩ (.of [some 0, some 1, some 2] (by rfl) ?_) ?_
      · conv => whnf
        refine ⟨by rfl, ?_⟩
        conv => whnf
        refine ⟨by rfl, ?_⟩
        conv => whnf
        refine ⟨by rfl, ?_⟩
        conv => whnf
        refine ⟨by rfl, ?_⟩
        conv => whnf
        refine ⟨by rfl, ?_⟩
        conv => whnf
        refine ⟨by rfl, ?_⟩
        conv => whnf
        refine ⟨by rfl, ?_⟩
        conv => whnf
        refine ⟨by simp, ?_⟩
        conv => whnf
        refine ⟨by simp, ?_⟩
        conv => whnf
        exact trivial
      · intro k
        have hk := k.2
        have tr := svT_rng hS k.1 hk
        have Qr := svQ_rng hS l.length (Nat.le_refl _)
        have m0 : 0 ≤ (k.1 : Int) * svQ l l.length := Int.mul_nonneg (by omega) (by omega)
        have m1 : (k.1 : Int) * svQ l l.length ≤ 32 * (2284509638769171136000000 * 32) := Int.mul_le_mul (by omega) (by omega) (by omega) (by omega)
        have e1 : (k.1 : Int) * svQ l l.length + svQ l l.length = ((k.1 + 1 : Nat) : Int) * svQ l l.length := by rw [show ((k.1 + 1 : Nat) : Int) = (k.1 : Int) + 1 by omega, Int.add_mul]; omega
        conv => whnf
        refine ⟨fun hb => ?_, fun hb => ?_⟩
        · have hb : k.1 < l.length := by simpa [hl] using hb
          obtain ⟨z1, z2, z3⟩ := jn_x hS hb
          have zr := svx_rng hS hb
          have eT : IntKind.u64.wrap (svT l k.1 + svx l k.1) = svT l (k.1 + 1) := by rw [IntKind.wrap_u64]; simp only [svT]; omega
          conv => whnf
          refine LoopG.inv tab_ok 69 (fun i : { i : Nat // i ≤ l.length } => [(0, .rs 3 (l.map smpR)), (2, .ptr 0 0), (3, .ptr 1 0), (5, .int .u64 (svT l k.1)), (6, .ptr 2 0), (7, .int .i64 (k.1 : Int)), (8, .int .i64 (i.1 : Int))])
            (fun i => [.fix 52 [.int .u64 0, .int .u64 0], .fix 52 [.int .u64 0, .int .u64 0], .fix 52 (wdC ((k.1 : Int) * svQ l l.length + svQ l i.1))]) (fun i => l.length - i.1) ⟨0, by omega⟩ (.of [some 0, some 1, some 2] (by rfl) ?_) ?_
          · conv => whnf
            refine ⟨by rfl, ?_⟩
            conv => whnf
            refine ⟨by rfl, ?_⟩
            conv => whnf
            refine ⟨by rfl, ?_⟩
            conv => whnf
            refine ⟨by rfl, ?_⟩
            conv => whnf
            refine ⟨by rfl, ?_⟩
            conv => whnf
            refine ⟨by rfl, ?_⟩
            conv => whnf
            refine ⟨by rfl, ?_⟩
            conv => whnf
            refine ⟨by rfl, ?_⟩
            conv => whnf
            refine ⟨by (simp [svQ]), ?_⟩
            conv => whnf
            refine ⟨by (simp [svQ]), ?_⟩
            conv => whnf
            exact trivial
          · intro i
            have hi := i.2
            have qr := svQ_rng hS i.1 hi
            conv => whnf
            refine ⟨fun hc => ?_, fun hc => ?_⟩
            · have hc : i.1 < l.length := by simpa [hl] using hc
              obtain ⟨x1, x2, x3⟩ := jn_x hS hc
              have xr := svx_rng hS hc
              have xq := svq_rng hS hc
              have ok := hS i.1 hc
              obtain ⟨w1, w2⟩ := wd_add (x := (k.1 : Int) * svQ l l.length + svQ l i.1) (y := svx l i.1 * svx l i.1) (by omega) (by omega) (by omega)
              have eQ : (k.1 : Int) * svQ l l.length + svQ l i.1 + svx l i.1 * svx l i.1 = (k.1 : Int) * svQ l l.length + svQ l (i.1 + 1) := by simp only [svQ]; omega
              rw [eQ] at w1 w2
              conv => whnf
              refine ⟨by omega, ?_⟩
              conv => whnf
              refine ⟨_, gs_get hc, ?_⟩
              conv => whnf
              refine (service_s _ _ _ ok).call ?_
              rintro _ rfl
              conv => whnf
              refine ⟨by omega, ?_⟩
              conv => whnf
              rw [x3]
              conv => whnf
              refine (rmul_s _ _ (by first | omega | assumption | decide | simp) (by first | omega | assumption | decide | simp) (by first | omega | assumption | decide | simp) (by first | omega | assumption | decide | simp)).call ?_
              rintro _ rfl
              conv => whnf
              refine (radd_s _ _ _ (by first | omega | assumption | decide | simp) (by first | omega | assumption | decide | simp) (by first | omega | assumption | decide | simp) (by first | omega | assumption | decide | simp) (by first | omega | assumption | decide | simp) (by first | omega | assumption | decide | simp)).call ?_
              rintro _ rfl
              conv => whnf
              refine ⟨⟨i.1 + 1, by omega⟩, by show l.length - (i.1 + 1) < l.length - i.1; omega, .of [some 0, some 1, some 2] (by rfl) ?_⟩
              conv => whnf
              refine ⟨by rfl, ?_⟩
              conv => whnf
              refine ⟨by rfl, ?_⟩
              conv => whnf
              refine ⟨by rfl, ?_⟩
              conv => whnf
              refine ⟨by exact (w64 _ (by omega) (by omega)).trans (by simp), ?_⟩
              conv => whnf
              refine ⟨by rfl, ?_⟩
              conv => whnf
              refine ⟨by rfl, ?_⟩
              conv => whnf
              refine ⟨by rfl, ?_⟩
              conv => whnf
              refine ⟨by rfl, ?_⟩
              conv => whnf
              refine ⟨by omega, ?_⟩
              conv => whnf
              refine ⟨by omega, ?_⟩
              conv => whnf
              exact trivial
            · have hc : i.1 = l.length := by simp [hl] at hc; omega
              have ok := hS k.1 hb
              rw [hc]
              conv => whnf
              refine .same ?_
              conv => whnf
              refine ⟨by omega, ?_⟩
              conv => whnf
              refine ⟨_, gs_get hb, ?_⟩
              conv => whnf
              refine (service_s _ _ _ ok).call ?_
              rintro _ rfl
              conv => whnf
              refine ⟨by omega, ?_⟩
              conv => whnf
              rw [z3]
              conv => whnf
              refine ⟨⟨k.1 + 1, by omega⟩, by show l.length - (k.1 + 1) < l.length - k.1; omega, .of [some 0, some 1, some 2] (by rfl) ?_⟩
              conv => whnf
              refine ⟨by rfl, ?_⟩
              conv => whnf
              refine ⟨by omega, ?_⟩
              conv => whnf
              refine ⟨by exact (w64 _ (by omega) (by omega)).trans (by simp), ?_⟩
              conv => whnf
              refine ⟨by rfl, ?_⟩
              conv => whnf
              refine ⟨by rfl, ?_⟩
              conv => whnf
              refine ⟨by rfl, ?_⟩
              conv => whnf
              refine ⟨by rfl, ?_⟩
              conv => whnf
              refine ⟨by simp [*], ?_⟩
              conv => whnf
              refine ⟨by simp [*], ?_⟩
              conv => whnf
              exact trivial
        · have hb : k.1 = l.length := by simp [hl] at hb; omega
          rw [hb] at tr
          rw [hb]
          conv => whnf
          refine .same ?_
          conv => whnf
          refine DrawG.of mixed tab_ok ?_
          conv => whnf
          refine (rmul_s _ _ (by first | omega | assumption | decide | simp) (by first | omega | assumption | decide | simp) (by first | omega | assumption | decide | simp) (by first | omega | assumption | decide | simp)).calld ?_
          conv => whnf
          refine ⟨by kernel_rfl, ?_⟩
          conv => whnf
  · obtain ⟨y1, y2, y3⟩ := jn_no hO
    have hB := (us_no 0 hO).2
    rw [y1, y2, y3]
    conv => whnf
    refine (rsamples_s _ (by first | omega | assumption | decide | simp)).call ?_
    rintro _ rfl
    conv => whnf
    refine both_t (by simp; omega) ?_
    conv => whnf
    rfl
theorem ljain_s (l : List (Int × Int × Int)) (hlen : l.length ≤ 1000000) : PSpec Try.prog 30 [.rs 3 (l.map smpR)] (· = .bool true) := by
  refine .of_code' tab_ok Try.func30 (by rfl) rfl trivial ?_
  conv => whnf
  refine (jain_s _ (by first | omega | assumption | decide | simp)).call ?_
  rintro _ rfl
  conv => whnf
  refine (rjain_s _ (by first | omega | assumption | decide | simp)).call ?_
  rintro _ rfl
  conv => whnf
  refine both_t (by simp) ?_
  conv => whnf
  refine both_t (by simp) ?_
  conv => whnf
  simp
theorem fairnessJain_s (ls : List Int) (raw : List (Int × Int × Int)) : PSpec Try.prog 7 [.rs 1 (nums ls), .rs 3 (raw.map smpR)] TrueS := by
  refine .of_code' tab_ok Try.func7 (by rfl) rfl trivial ?_
  have hl : (raw.map smpR).length = raw.length := by simp
  conv => whnf
  refine CallG.of_code tab_ok Try.func15 (by rfl) rfl ?_
  conv => whnf
  refine LoopG.inv tab_ok 27 (fun x : { x : Nat × Int // x.1 ≤ 5 ∧ 0 ≤ x.2 ∧ x.2 ≤ 31 * x.1 } => [(1, .rs 3 (raw.map smpR)), (5, .ptr 0 0), (6, .int .i64 (x.1.1 : Int))])
    (fun x => [chs ls x.1.2]) (fun x => 5 - x.1.1) ⟨(0, 0), by decide⟩ (.of [some 0] (by rfl) ?_) ?_
  · conv => whnf
    refine ⟨by rfl, ?_⟩
    conv => whnf
    refine ⟨by rfl, ?_⟩
    conv => whnf
    refine ⟨by rfl, ?_⟩
    conv => whnf
    refine ⟨by rfl, ?_⟩
    conv => whnf
    exact trivial
  · intro x
    obtain ⟨hx1, hx2, hx3⟩ := x.2
    conv => whnf
    refine ⟨fun hb => ?_, fun hb => ?_⟩
    · have hb : (x.1.1 : Int) < 5 := by simpa using hb
      conv => whnf
      refine (samples_s ls x.1.2 6 hx2 (by omega) (by decide) (by decide)).call [0] (by decide) (And.intro rfl trivial) (And.intro rfl trivial) ?_
      rintro _ _ ⟨us, a2, rfl, rfl, hu1, hu2, hu3⟩
      conv => whnf
      refine (ljain_s _ (by first | omega | assumption | decide | simp)).call ?_
      rintro _ rfl
      conv => whnf
      refine both_f rfl ?_
      conv => whnf
      refine ⟨⟨(x.1.1 + 1, a2), by show x.1.1 + 1 ≤ 5; omega, by show 0 ≤ a2; omega, by show a2 ≤ 31 * ((x.1.1 + 1 : Nat) : Int); omega⟩, by show 5 - (x.1.1 + 1) < 5 - x.1.1; omega, .of [some 0] (by rfl) ?_⟩
      conv => whnf
      refine ⟨by rfl, ?_⟩
      conv => whnf
      refine ⟨by exact (w64 _ (by omega) (by omega)).trans (by simp), ?_⟩
      conv => whnf
      refine ⟨by rfl, ?_⟩
      conv => whnf
      refine ⟨by rfl, ?_⟩
      conv => whnf
      exact trivial
    · conv => whnf
      refine .same ?_
      conv => whnf
      refine ⟨fun hc => ?_, fun hc => ?_⟩
      · conv => whnf
        refine (awake14_s).call ?_
        rintro _ rfl
        conv => whnf
      · have hc : (raw.length : Int) ≤ 40 := by rw [hl] at hc; simpa using hc
        conv => whnf
        refine (ljain_s _ (by first | omega | assumption | decide | simp)).call ?_
        rintro _ rfl
        conv => whnf
        refine both_t rfl ?_
        conv => whnf
        refine (awake14_s).call ?_
        rintro _ rfl
        conv => whnf
end Go.Proofs.Ythlomoacacebeac

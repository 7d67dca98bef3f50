/- Part of the executor and its soundness, or of what it is told of this seat's program. No statement of the seat is proved here. -/
import Derived.Test.YtlcconkbldnkmaaGreatDoorTb
import Derived.Test.YtlcconkbldnkmaaGreatDoorSx4
import Derived.Test.YtlcconkbldnkmaaGreatDoorMe
import Derived.Below
set_option linter.unusedSimpArgs false
set_option linter.unusedVariables false
/- Contracts of the choices from which the statements draw. No statement of the seat is proved here. -/
namespace Go.Proofs.YtlcconkbldnkmaaGreatDoor
open Go.Sx
theorem mixed : Tryz.prog.follows .mixedOrders = true := by kernel_rfl
/-- A row of numbers. -/
def nums (ls : List Int) : List (List SV) := ls.map fun z => [.int .i64 z]
theorem nums_len (ls : List Int) : (nums ls).length = ls.length := by simp [nums]
/-- What stands at a place of the choices. -/
def raw (ls : List Int) (at' : Int) : Int := if at' < (ls.length : Int) then ls.getD at'.toNat 0 else IntKind.i64.wrap (IntKind.i64.wrap (7 * at') + 3)
/-- The next number below n. -/
def nxt (ls : List Int) (at' n : Int) : Int := if n < 1 then 0 else raw ls at' % n
def chs (ls : List Int) (at' : Int) : Blk := .fix 60 [.rs 1 (nums ls), .int .i64 at']
theorem w64 (n : Int) (h0 : -9223372036854775808 ≤ n) (h1 : n ≤ 9223372036854775807) : IntKind.i64.wrap n = n := by rw [IntKind.wrap_i64]; omega
theorem tmod_neg {v n : Int} (hn : 0 < n) (h : v.tmod n < 0) : v.tmod n + n = v % n := by
  rw [Int.tmod_eq_emod] at *
  split at h
  · have := Int.emod_nonneg v (b := n) (by omega); omega
  · rename_i hc; rw [if_neg hc]; omega
theorem tmod_pos {v n : Int} (hn : 0 < n) (h : 0 ≤ v.tmod n) : v.tmod n = v % n := by
  rw [Int.tmod_eq_emod] at *
  split at h
  · rename_i hc; rw [if_pos hc]; omega
  · have := Int.emod_lt_of_pos v (b := n) hn; omega
theorem next_s (ls : List Int) (at' n : Int) (h0 : 0 ≤ at') (h1 : at' < 9223372036854775807) (n1 : n ≤ 9223372036854775807) :
    OSpec Tryz.prog 7 [.ptr 0 0, .int .i64 n] [chs ls at'] fun s ho => s = .int .i64 (nxt ls at' n) ∧ ho = [chs ls (at' + 1)] := by
  refine .of_code tab_ok Tryz.func7 (by rfl) rfl trivial ?_
  conv => whnf
  refine DrawG.of mixed tab_ok ?_
  conv => whnf
  refine ⟨by kernel_rfl, ?_⟩
  conv => whnf
  have hget : at' < (ls.length : Int) → (nums ls)[at'.toNat]? = some [.int .i64 (ls.getD at'.toNat 0)] := fun h => by
    have : at'.toNat < ls.length := by omega
    simp [nums, List.getD, List.getElem?_eq_getElem this]
  refine ⟨fun hb => ?_, fun hb => ?_⟩
  · have hb' : at' < (ls.length : Int) := by simpa [nums_len] using hb
    have hraw : raw ls at' = ls.getD at'.toNat 0 := by simp [raw, hb']
    conv => whnf
    refine DrawG.of mixed tab_ok ?_
    conv => whnf
    refine ⟨⟨h0, by rw [nums_len]; exact hb'⟩, ?_⟩
    conv => whnf
    refine ⟨_, hget hb', ?_⟩
    conv => whnf
    refine ⟨by kernel_rfl, ?_⟩
    conv => whnf
    generalize hv : ls.getD at'.toNat 0 = v at *
    refine ⟨fun hn => ?_, fun hn => ?_⟩
    · conv => whnf
      have hn : n < 1 := by simpa using hn
      rw [w64 (at' + 1) (by omega) (by omega)]
      exact ⟨by simp [nxt, hn], rfl⟩
    · conv => whnf
      have hn : ¬ n < 1 := by simpa using hn
      refine ⟨by omega, ?_⟩
      conv => whnf
      refine ⟨fun hm => ?_, fun hm => ?_⟩
      · conv => whnf
        rw [w64 (at' + 1) (by omega) (by omega)]
        have e : nxt ls at' n = v % n := by simp [nxt, hn, hraw]
        have hm : v.tmod n < 0 := by simpa using hm
        have e2 : v.tmod n + n = v % n := tmod_neg (by omega) hm
        refine ⟨?_, rfl⟩
        rw [e, ← e2, w64 _ (by have := Int.emod_nonneg v (b := n) (by omega); omega) (by have := Int.emod_lt_of_pos v (b := n) (by omega); omega)]
      · conv => whnf
        rw [w64 (at' + 1) (by omega) (by omega)]
        have e : nxt ls at' n = v % n := by simp [nxt, hn, hraw]
        have hm : ¬ v.tmod n < 0 := by simpa using hm
        refine ⟨?_, rfl⟩
        rw [e, tmod_pos (by omega) (by omega)]
  · have hraw : raw ls at' = IntKind.i64.wrap (IntKind.i64.wrap (7 * at') + 3) := by
      have : ¬ at' < (ls.length : Int) := by simpa [nums_len] using hb
      simp [raw, this]
    generalize IntKind.i64.wrap (IntKind.i64.wrap (7 * at') + 3) = v at *
    conv => whnf
    refine ⟨fun hn => ?_, fun hn => ?_⟩
    · conv => whnf
      have hn : n < 1 := by simpa using hn
      rw [w64 (at' + 1) (by omega) (by omega)]
      exact ⟨by simp [nxt, hn], rfl⟩
    · conv => whnf
      have hn : ¬ n < 1 := by simpa using hn
      refine ⟨by omega, ?_⟩
      conv => whnf
      refine ⟨fun hm => ?_, fun hm => ?_⟩
      · conv => whnf
        rw [w64 (at' + 1) (by omega) (by omega)]
        have e : nxt ls at' n = v % n := by simp [nxt, hn, hraw]
        have hm : v.tmod n < 0 := by simpa using hm
        have e2 : v.tmod n + n = v % n := tmod_neg (by omega) hm
        refine ⟨?_, rfl⟩
        rw [e, ← e2, w64 _ (by have := Int.emod_nonneg v (b := n) (by omega); omega) (by have := Int.emod_lt_of_pos v (b := n) (by omega); omega)]
      · conv => whnf
        rw [w64 (at' + 1) (by omega) (by omega)]
        have e : nxt ls at' n = v % n := by simp [nxt, hn, hraw]
        have hm : ¬ v.tmod n < 0 := by simpa using hm
        refine ⟨?_, rfl⟩
        rw [e, tmod_pos (by omega) (by omega)]
theorem nxt_lo (ls : List Int) (at' n : Int) : 0 ≤ nxt ls at' n := by
  unfold nxt
  split
  · omega
  · exact Int.emod_nonneg _ (by omega)
theorem nxt_hi (ls : List Int) (at' n : Int) (hn : 1 ≤ n) : nxt ls at' n < n := by
  unfold nxt
  rw [if_neg (by omega)]
  exact Int.emod_lt_of_pos _ (by omega)
theorem lit_get {l : List Int} {k : IntKind} {i : Int} (h0 : 0 ≤ i) (h1 : i < l.length) : (l.map fun z => [SV.int k z])[i.toNat]? = some [SV.int k (l.getD i.toNat 0)] := by
  have : i.toNat < l.length := by omega
  rw [List.getElem?_map, List.getElem?_eq_getElem this]
  simp [List.getD, List.getElem?_eq_getElem this]
end Go.Proofs.YtlcconkbldnkmaaGreatDoor

/- The configuration that is drawn. No statement of the seat is proved here. -/
namespace Go.Proofs.YtlcconkbldnkmaaGreatDoor
open Go.Sx
set_option linter.unusedSimpArgs false
set_option linter.unusedVariables false
structure Cf where
  mo : Int
  an : Int
  ad : Int
  pk : Int
  pq : Int
  pn : Int
  cp : Int
  cb : Int
  ca : Int
  tr : Int
  wi : Int
  qu : Int
  cy : Int
  re : Int
  rs : List (Int × Int)
abbrev rtE (r : Int × Int) : List SV := [.int .i64 r.1, .int .i64 r.2]
abbrev blE (b : Bool) : List SV := [.bool b]
abbrev cfC (c : Cf) : List SV := [.int .i64 c.mo, .int .i64 c.an, .int .i64 c.ad, .int .i64 c.pk, .int .i64 c.pq, .int .i64 c.pn, .int .i64 c.cp, .int .i64 c.cb, .int .i64 c.ca, .int .i64 c.tr, .int .i64 c.wi, .int .i64 c.qu, .int .i64 c.cy, .int .i64 c.re, .rs 2 (c.rs.map rtE)]
abbrev cfE (c : Cf) : SV := .agg (cfC c)
theorem gl_get {l : List Int} {i : Int} (h0 : 0 ≤ i) (h1 : i < l.length) : (nums l)[i.toNat]? = some [SV.int .i64 (l.getD i.toNat 0)] := by
  have : i.toNat < l.length := by omega
  simp [nums, List.getD, List.getElem?_eq_getElem this]
def als : List (Int × Int) := [(1, 2), (9, 10), (1, 10), (2, 3), (1048575, 1048576), (1, 1048576)]
def alx (ls : List Int) (at' : Int) : Int × Int := als.getD (nxt ls at' 6).toNat (0, 0)
theorem als_get {i : Int} (h0 : 0 ≤ i) (h1 : i < 6) : (als.map fun p => [SV.int .i64 p.1, SV.int .i64 p.2])[i.toNat]? = some [SV.int .i64 (als.getD i.toNat (0, 0)).1, SV.int .i64 (als.getD i.toNat (0, 0)).2] := by
  have hl : i.toNat < als.length := by show i.toNat < 6; omega
  rw [List.getElem?_map, List.getElem?_eq_getElem hl]
  simp [List.getD, List.getElem?_eq_getElem hl]
theorem galpha_s (ls : List Int) (at' : Int) (h0 : 0 ≤ at') (h1 : at' < 9223372036854775800) :
    OSpec Tryz.prog 17 [.ptr 0 0] [chs ls at'] fun s ho => s = .agg [.int .i64 (alx ls at').1, .int .i64 (alx ls at').2] ∧ ho = [chs ls (at' + 1)] := by
  refine .of_code tab_ok Tryz.func17 (by rfl) rfl trivial ?_
  conv => whnf
  refine (next_s _ _ _ (by first | omega | assumption | decide | simp) (by first | omega | assumption | decide | simp) (by first | omega | assumption | decide | simp)).call [0] (by decide) (And.intro rfl trivial) (And.intro rfl trivial) ?_
  rintro _ _ ⟨rfl, rfl⟩
  conv => whnf
  refine ⟨by exact ⟨nxt_lo _ _ _, nxt_hi _ _ _ (by omega)⟩, ?_⟩
  conv => whnf
  refine ⟨_, als_get (nxt_lo _ _ _) (nxt_hi _ _ _ (by decide)), ?_⟩
  conv => whnf
  refine ⟨by rfl, ?_⟩
  conv => whnf
def pkN (ls : List Int) (a : Int) : Int := 1 + nxt ls (a + 1) 5
def pkK (ls : List Int) (a : Int) : Int := if nxt ls a 3 = 0 then 2 else if nxt ls a 3 = 1 then 1 else 0
def pkA (ls : List Int) (a : Int) : Int := if nxt ls a 3 = 0 then 0 else if nxt ls a 3 = 1 then 1 + nxt ls (a + 1 + 1) (pkN ls a) else 0
def pkB (ls : List Int) (a : Int) : Int := if nxt ls a 3 = 0 then 0 else if nxt ls a 3 = 1 then pkN ls a else 0
def pkP (ls : List Int) (a : Int) : Int := if nxt ls a 3 = 0 then a + 1 else if nxt ls a 3 = 1 then a + 1 + 1 + 1 else a + 1
theorem pkN_rng (ls : List Int) (a : Int) : 1 ≤ pkN ls a ∧ pkN ls a ≤ 5 := by
  have n0 := nxt_lo ls (a + 1) 5
  have n1 := nxt_hi ls (a + 1) 5 (by omega)
  unfold pkN; omega
theorem pkP_rng (ls : List Int) (a : Int) : a ≤ pkP ls a ∧ pkP ls a ≤ a + 3 := by unfold pkP; split <;> (try split) <;> omega
theorem gpred_s (ls : List Int) (a : Int) (h0 : 0 ≤ a) (h1 : a < 9223372036854775000) :
    OSpec Tryz.prog 18 [.ptr 0 0] [chs ls a] fun s ho => s = .agg [.int .i64 (pkK ls a), .int .i64 (pkA ls a), .int .i64 (pkB ls a)] ∧ ho = [chs ls (pkP ls a)] := by
  refine .of_code tab_ok Tryz.func18 (by rfl) rfl trivial ?_
  have n0 := nxt_lo ls (a + 1) 5
  have n1 := nxt_hi ls (a + 1) 5 (by omega)
  obtain ⟨r0, r1⟩ := pkN_rng ls a
  have m0 := nxt_lo ls (a + 1 + 1) (pkN ls a)
  have m1 := nxt_hi ls (a + 1 + 1) (pkN ls a) (by omega)
  have w1 : IntKind.i64.wrap (1 + nxt ls (a + 1) 5) = pkN ls a := by unfold pkN; rw [w64 _ (by omega) (by omega)]
  have w2 : IntKind.i64.wrap (1 + nxt ls (a + 1 + 1) (pkN ls a)) = 1 + nxt ls (a + 1 + 1) (pkN ls a) := w64 _ (by omega) (by omega)
  conv => whnf
  refine (next_s _ _ _ (by first | omega | assumption | decide | simp) (by first | omega | assumption | decide | simp) (by first | omega | assumption | decide | simp)).call [0] (by decide) (And.intro rfl trivial) (And.intro rfl trivial) ?_
  rintro _ _ ⟨rfl, rfl⟩
  by_cases h0 : nxt ls a 3 = 0
  · have e1 : pkK ls a = 2 := by simp [pkK, h0]
    have e2 : pkA ls a = 0 := by simp [pkA, h0]
    have e3 : pkB ls a = 0 := by simp [pkB, h0]
    have e4 : pkP ls a = a + 1 := by simp [pkP, h0]
    rw [e1, e2, e3, e4]
    conv => whnf
    refine both_t (by exact decide_eq_true h0) ?_
    conv => whnf
    refine ⟨by rfl, ?_⟩
    conv => whnf
  · by_cases h1 : nxt ls a 3 = 1
    · have e1 : pkK ls a = 1 := by simp [pkK, h1]
      have e2 : pkA ls a = 1 + nxt ls (a + 1 + 1) (pkN ls a) := by simp [pkA, h1]
      have e3 : pkB ls a = pkN ls a := by simp [pkB, h1]
      have e4 : pkP ls a = a + 1 + 1 + 1 := by simp [pkP, h1]
      rw [e1, e2, e3, e4]
      conv => whnf
      refine both_f (by exact decide_eq_false h0) ?_
      conv => whnf
      refine both_t (by exact decide_eq_true h1) ?_
      conv => whnf
      refine (next_s _ _ _ (by first | omega | assumption | decide | simp) (by first | omega | assumption | decide | simp) (by first | omega | assumption | decide | simp)).call [0] (by decide) (And.intro rfl trivial) (And.intro rfl trivial) ?_
      rintro _ _ ⟨rfl, rfl⟩
      have p1 : 0 < IntKind.i64.wrap (1 + nxt ls (a + 1) 5) := by rw [w1]; omega
      conv => whnf
      refine (next_s _ _ _ (by first | omega | assumption | decide | simp) (by first | omega | assumption | decide | simp) (by first | omega | assumption | decide | simp)).call [0] (by decide) (And.intro rfl trivial) (And.intro rfl trivial) ?_
      rintro _ _ ⟨rfl, rfl⟩
      conv => whnf
      refine ⟨by simp [*], ?_⟩
      conv => whnf
    · have e1 : pkK ls a = 0 := by simp [pkK, h0, h1]
      have e2 : pkA ls a = 0 := by simp [pkA, h0, h1]
      have e3 : pkB ls a = 0 := by simp [pkB, h0, h1]
      have e4 : pkP ls a = a + 1 := by simp [pkP, h0, h1]
      rw [e1, e2, e3, e4]
      conv => whnf
      refine both_f (by exact decide_eq_false h0) ?_
      conv => whnf
      refine both_f (by exact decide_eq_false h1) ?_
      conv => whnf
      refine ⟨by rfl, ?_⟩
      conv => whnf
theorem gmode_s (ls : List Int) (a : Int) (h0 : 0 ≤ a) (h1 : a < 9223372036854775000) :
    OSpec Tryz.prog 6 [.ptr 0 0] [chs ls a] fun s ho => s = .int .i64 (1 + nxt ls a 3) ∧ ho = [chs ls (a + 1)] := by
  refine .of_code tab_ok Tryz.func6 (by rfl) rfl trivial ?_
  have n0 := nxt_lo ls a 3
  have n1 := nxt_hi ls a 3 (by omega)
  have w1 : IntKind.i64.wrap (1 + nxt ls a 3) = 1 + nxt ls a 3 := w64 _ (by omega) (by omega)
  conv => whnf
  refine (next_s _ _ _ (by first | omega | assumption | decide | simp) (by first | omega | assumption | decide | simp) (by first | omega | assumption | decide | simp)).call [0] (by decide) (And.intro rfl trivial) (And.intro rfl trivial) ?_
  rintro _ _ ⟨rfl, rfl⟩
  conv => whnf
  refine ⟨by simp; omega, ?_⟩
  conv => whnf
def wiL : List Int := [1, 2, 4, 64]
def quL : List Int := [256, 1000, 5000]
def cyL : List Int := [512, 20, 6]
def reL : List Int := [1099511627776, 1, 268435456, 1073741824]
/-- The configuration that is drawn at a place b behind alpha and predictor. -/
def cfX (ls : List Int) (a m : Int) : Cf := ⟨m, (alx ls a).1, (alx ls a).2, pkK ls (a + 1), pkA ls (a + 1), pkB ls (a + 1), 1 + nxt ls (pkP ls (a + 1)) 4, 4096 + 2000 * nxt ls (pkP ls (a + 1) + 1) 3, 1048576,
  1 + nxt ls (pkP ls (a + 1) + 1 + 1) 4, wiL.getD (nxt ls (pkP ls (a + 1) + 1 + 1 + 1) 4).toNat 0, quL.getD (nxt ls (pkP ls (a + 1) + 1 + 1 + 1 + 1) 3).toNat 0, cyL.getD (nxt ls (pkP ls (a + 1) + 1 + 1 + 1 + 1 + 1) 3).toNat 0, reL.getD (nxt ls (pkP ls (a + 1) + 1 + 1 + 1 + 1 + 1 + 1) 4).toNat 0, [(6000, 100), (54000, 50)]⟩
def cfA (ls : List Int) (a : Int) : Int := pkP ls (a + 1) + 1 + 1 + 1 + 1 + 1 + 1 + 1
set_option maxRecDepth 100000 in
set_option maxHeartbeats 8000000 in
theorem gcfg_s (ls : List Int) (a m : Int) (h0 : 0 ≤ a) (h1 : a < 9223372036854774000) :
    OSpec Tryz.prog 5 [.ptr 0 0, .int .i64 m] [chs ls a] fun s ho => s = cfE (cfX ls a m) ∧ ho = [chs ls (cfA ls a)] := by
  refine .of_code tab_ok Tryz.func5 (by rfl) rfl trivial ?_
  obtain ⟨b, hb⟩ : ∃ b, b = pkP ls (a + 1) := ⟨_, rfl⟩
  have hr := pkP_rng ls (a + 1)
  rw [← hb] at hr
  unfold cfX cfA
  rw [← hb]
  have a0 := nxt_lo ls b 4
  have a1 := nxt_hi ls b 4 (by omega)
  have b0 := nxt_lo ls (b + 1) 3
  have b1 := nxt_hi ls (b + 1) 3 (by omega)
  have c0 := nxt_lo ls (b + 1 + 1) 4
  have c1 := nxt_hi ls (b + 1 + 1) 4 (by omega)
  have d0 := nxt_lo ls (b + 1 + 1 + 1) 4
  have d1 := nxt_hi ls (b + 1 + 1 + 1) 4 (by omega)
  have e0 := nxt_lo ls (b + 1 + 1 + 1 + 1) 3
  have e1 := nxt_hi ls (b + 1 + 1 + 1 + 1) 3 (by omega)
  have f0 := nxt_lo ls (b + 1 + 1 + 1 + 1 + 1) 3
  have f1 := nxt_hi ls (b + 1 + 1 + 1 + 1 + 1) 3 (by omega)
  have g0 := nxt_lo ls (b + 1 + 1 + 1 + 1 + 1 + 1) 4
  have g1 := nxt_hi ls (b + 1 + 1 + 1 + 1 + 1 + 1) 4 (by omega)
  have hp := gpred_s ls (a + 1) (by omega) (by omega)
  rw [← hb] at hp
  have w1 : IntKind.i64.wrap (1 + nxt ls b 4) = 1 + nxt ls b 4 := w64 _ (by omega) (by omega)
  have w2 : IntKind.i64.wrap (4096 + IntKind.i64.wrap (2000 * nxt ls (b + 1) 3)) = 4096 + 2000 * nxt ls (b + 1) 3 := by rw [w64 (2000 * nxt ls (b + 1) 3) (by omega) (by omega), w64 _ (by omega) (by omega)]
  have w3 : IntKind.i64.wrap (1 + nxt ls (b + 1 + 1) 4) = 1 + nxt ls (b + 1 + 1) 4 := w64 _ (by omega) (by omega)
  conv => whnf
  refine (galpha_s ls a (by omega) (by omega)).call [0] (by decide) trivial (And.intro rfl trivial) ?_
  rintro _ _ ⟨rfl, rfl⟩
  conv => whnf
  refine hp.call [0] (by decide) trivial (And.intro rfl trivial) ?_
  rintro _ _ ⟨rfl, rfl⟩
  conv => whnf
  refine (next_s _ _ _ (by first | omega | assumption | decide | simp) (by first | omega | assumption | decide | simp) (by first | omega | assumption | decide | simp)).call [0] (by decide) (And.intro rfl trivial) (And.intro rfl trivial) ?_
  rintro _ _ ⟨rfl, rfl⟩
  conv => whnf
  refine (next_s _ _ _ (by first | omega | assumption | decide | simp) (by first | omega | assumption | decide | simp) (by first | omega | assumption | decide | simp)).call [0] (by decide) (And.intro rfl trivial) (And.intro rfl trivial) ?_
  rintro _ _ ⟨rfl, rfl⟩
  conv => whnf
  refine DrawG.of mixed tab_ok ?_
  conv => whnf
  refine (next_s _ _ _ (by first | omega | assumption | decide | simp) (by first | omega | assumption | decide | simp) (by first | omega | assumption | decide | simp)).calld [0] (by decide) rfl (And.intro rfl trivial) (And.intro rfl trivial) ?_
  conv => whnf
  refine (next_s _ _ _ (by first | omega | assumption | decide | simp) (by first | omega | assumption | decide | simp) (by first | omega | assumption | decide | simp)).calld [0] (by decide) rfl (And.intro rfl trivial) (And.intro rfl trivial) ?_
  conv => whnf
  refine ⟨by simp; omega, ?_⟩
  conv => whnf
  refine ⟨_, gl_get (l := wiL) d0 d1, ?_⟩
  conv => whnf
  refine (next_s _ _ _ (by first | omega | assumption | decide | simp) (by first | omega | assumption | decide | simp) (by first | omega | assumption | decide | simp)).calld [0] (by decide) rfl (And.intro rfl trivial) (And.intro rfl trivial) ?_
  conv => whnf
  refine ⟨by simp; omega, ?_⟩
  conv => whnf
  refine ⟨_, gl_get (l := quL) e0 e1, ?_⟩
  conv => whnf
  refine (next_s _ _ _ (by first | omega | assumption | decide | simp) (by first | omega | assumption | decide | simp) (by first | omega | assumption | decide | simp)).calld [0] (by decide) rfl (And.intro rfl trivial) (And.intro rfl trivial) ?_
  conv => whnf
  refine ⟨by simp; omega, ?_⟩
  conv => whnf
  refine ⟨_, gl_get (l := cyL) f0 f1, ?_⟩
  conv => whnf
  refine ⟨by kernel_rfl, ?_⟩
  conv => whnf
  refine (next_s _ _ _ (by first | omega | assumption | decide | simp) (by first | omega | assumption | decide | simp) (by first | omega | assumption | decide | simp)).call [0] (by decide) (And.intro rfl trivial) (And.intro rfl trivial) ?_
  rintro _ _ ⟨rfl, rfl⟩
  conv => whnf
  refine ⟨by simp; omega, ?_⟩
  conv => whnf
  refine ⟨_, gl_get (l := reL) g0 g1, ?_⟩
  conv => whnf
  refine ⟨by simp; omega, ?_⟩
  conv => whnf
end Go.Proofs.YtlcconkbldnkmaaGreatDoor

/- The draws of the law, told to the executor. No statement of the seat is proved here. -/
namespace Go.Sx
section
variable {P : Program}
theorem setK_of {α : Type} {l : List α} : ∀ {n : Nat} {v : α} {k : List α → Prop}, n < l.length → k (l.set n v) → setK l n v k := by
  induction l with
  | nil => intro n v k h; simp at h
  | cons x l ih =>
    intro n v k h hk
    cases n with
    | zero => exact hk
    | succ n => exact ih (k := fun l' => k (x :: l')) (by simpa using h) hk
/-- A function that is handed one block, as the executor takes it. -/
theorem CallL.of_ospec {f : FuncId} {args args' : List SV} {blk blk' : Blk} {s0 s1 : SV} (hs : OSpec P f args [blk] fun s ho => s = s0 ∧ ho = [blk']) (hkn : Know s0 s1) {H : HW} {b : Nat} {K : KV3} (ha : argsK [b] args args' True)
    (hb : H.view[b]? = some blk) (hk : setH H b blk' fun H' => K s1 H' [b]) : CallL P f args' H K := by
  obtain ⟨H', hk, hlt, hv⟩ := setH_sound hk
  refine ⟨s1, H', [b], hk, fun i hi hn => ?_, by rw [hv]; simp, ⟨fun w X σ vs hI hr => ?_⟩⟩
  · rw [hv, List.getElem?_set_ne]
    intro hbi; subst hbi; simp at hn
  · have hc := hs.call [b] (by simp) (h := H.view) (K := fun s h => s = s0 ∧ h = H.view.set b blk') ha (nthK_mk hb ⟨rfl, trivial⟩) (fun s ho ⟨e1, e2⟩ => by
      subst e2
      exact setK_of hlt ⟨e1, rfl⟩)
    refine (hc.ok w X σ vs hI hr).mono fun v w' ⟨s, h1, σ', ⟨e1, e2⟩, a1, a2, a3⟩ => ?_
    subst e1; subst e2
    exact ⟨s1, H'.view, σ', ⟨rfl, rfl⟩, hkn _ _ _ _ a1, by rw [hv]; exact a2, a3⟩
theorem eqNK_self {b : Nat} {k : Prop} (h : k) : eqNK b b k := by
  unfold eqNK
  rw [Nat.beq_refl]
  exact h
theorem arg1 {b : Nat} : argsK [b] [.ptr 0 0] [.ptr b 0] True := eqNK_self (eqNK_self (k := True) trivial)
theorem arg2 {b : Nat} {k : IntKind} {n : Int} : argsK [b] [.ptr 0 0, .int k n] [.ptr b 0, .int k n] True := eqNK_self (eqNK_self (k := (SV.int k n = SV.int k n ∧ True)) ⟨rfl, trivial⟩)
end
end Go.Sx
namespace Go.Proofs.YtlcconkbldnkmaaGreatDoor
open Go.Sx
noncomputable def modeH (ls : List Int) (m : Int) : HSp := fun l H K => match l with
  | [.ptr b 0] => getH H b fun blk => blk = chs ls 0 ∧ setH H b (chs ls 1) fun H' => K (.int .i64 m) H' [b]
  | _ => False
noncomputable def cfgH (ls : List Int) (m : Int) (c : SV) : HSp := fun l H K => match l with
  | [.ptr b 0, .int .i64 m'] => getH H b fun blk => (m' = m ∧ blk = chs ls 1) ∧ setH H b (chs ls (cfA ls 1)) fun H' => K c H' [b]
  | _ => False
noncomputable def nextH (ls : List Int) (t : Int) : HSp := fun l H K => match l with
  | [.ptr b 0, .int .i64 n] => getH H b fun blk => (n = 3 ∧ blk = chs ls (cfA ls 1)) ∧ setH H b (chs ls (cfA ls 1 + 1)) fun H' => K (.int .i64 t) H' [b]
  | _ => False
theorem mode_ok {ls : List Int} {m : Int} (hm : m = 1 + nxt ls 0 3) (l : List SV) (H : HW) (K : KV3) (h : modeH ls m l H K) : CallL Tryz.prog 6 l H K := by
  unfold modeH at h
  split at h
  · rename_i b
    rw [getH_eq] at h
    obtain ⟨blk, hb, e, h9⟩ := nthK_sound h
    clear h
    subst e
    subst hm
    exact CallL.of_ospec (gmode_s ls 0 (by omega) (by omega)) (.refl _) arg1 hb h9
  · exact h.elim
theorem cfg_ok {ls : List Int} {m : Int} {c : SV} (hc : Know (cfE (cfX ls 1 m)) c) (l : List SV) (H : HW) (K : KV3) (h : cfgH ls m c l H K) : CallL Tryz.prog 5 l H K := by
  unfold cfgH at h
  split at h
  · rename_i b m'
    rw [getH_eq] at h
    obtain ⟨blk, hb, ⟨e1, e2⟩, h9⟩ := nthK_sound h
    clear h
    subst e1; subst e2
    exact CallL.of_ospec (gcfg_s ls 1 m' (by omega) (by omega)) hc arg2 hb h9
  · exact h.elim
theorem cfA_rng (ls : List Int) : 0 ≤ cfA ls 1 ∧ cfA ls 1 ≤ 100 := by
  have := pkP_rng ls (1 + 1)
  unfold cfA; omega
theorem next_ok {ls : List Int} {t : Int} (ht : t = nxt ls (cfA ls 1) 3) (l : List SV) (H : HW) (K : KV3) (h : nextH ls t l H K) : CallL Tryz.prog 7 l H K := by
  unfold nextH at h
  split at h
  · rename_i b n
    rw [getH_eq] at h
    obtain ⟨blk, hb, ⟨e1, e2⟩, h9⟩ := nthK_sound h
    clear h
    subst e1; subst e2; subst ht
    have := cfA_rng ls
    exact CallL.of_ospec (next_s ls (cfA ls 1) 3 (by omega) (by omega) (by omega)) (.refl _) arg2 hb h9
  · exact h.elim
/-- The configuration of which the law makes use, and no more. -/
noncomputable def cfS (m an ad cb : Int) (qu re : SV) : SV := .agg [.int .i64 m, .iv .i64 an 1 1048575 1 0, .iv .i64 ad 2 1048576 1 0, .any, .any, .any, .any, .iv .i64 cb 4096 8096 1 0, .int .i64 1048576, .any, .any, qu, .any, re, .rs 2 [[.int .i64 6000, .int .i64 100], [.int .i64 54000, .int .i64 50]]]
noncomputable def hspecs2 (ls : List Int) (m t an ad cb : Int) (qu re : SV) : List (FuncId × HSp) := (6, modeH ls m) :: (5, cfgH ls m (cfS m an ad cb qu re)) :: (7, nextH ls t) :: hspecs1
noncomputable def env2 (ls : List Int) (m t an ad cb : Int) (qu re : SV) : Env := ⟨tab, ftab, mtab, pspecs1, hspecs2 ls m t an ad cb qu re, itab, true⟩
theorem env2_ok {ls : List Int} {m t an ad cb : Int} {qu re : SV} (hm : m = 1 + nxt ls 0 3) (ht : t = nxt ls (cfA ls 1) 3) (hc : Know (cfE (cfX ls 1 m)) (cfS m an ad cb qu re)) : EnvOK Tryz.prog (env2 ls m t an ad cb qu re) where
  tab := tab_ok
  ft := ft_ok
  mt := mt_ok
  mixed := env_ok.mixed
  it := it_ok
  ps := env1_ok.ps
  hs := fun f sp h => by
    have := assocD_mem h
    simp only [env2, hspecs2, List.mem_cons, Prod.mk.injEq] at this
    rcases this with ⟨rfl, rfl⟩ | ⟨rfl, rfl⟩ | ⟨rfl, rfl⟩ | h1
    · exact mode_ok hm
    · exact cfg_ok hc
    · exact next_ok ht
    · have : f = 16 ∧ sp = constH [] .tt 433 pow10 ∨ (f, sp) ∈ hspecs := by
        simpa [hspecs1] using h1
      rcases this with ⟨rfl, rfl⟩ | h1
      · exact sane_ok
      · simp only [hspecs, List.mem_cons, List.not_mem_nil, or_false, Prod.mk.injEq] at h1
        rcases h1 with ⟨rfl, rfl⟩ | ⟨rfl, rfl⟩ | ⟨rfl, rfl⟩ | ⟨rfl, rfl⟩ | ⟨rfl, rfl⟩
        · exact clone_ok
        · exact seq_ok
        · exact check_ok
        · exact grow_ok
        · exact fmt_ok
end Go.Proofs.YtlcconkbldnkmaaGreatDoor

/- The law's runs: what is asked. No statement of the seat is proved here. -/
namespace Go.Proofs.YtlcconkbldnkmaaGreatDoor
open Go.Sx
/-- The law, run in mode m with t + 1 tries, n + 1 packets. -/
noncomputable def lawV (ls : List Int) (p an ad cb : Int) (m t n : Int) (qu re : SV) : Prop := callsV Tryz.prog (env2 ls m t an ad cb qu re) (run (env2 ls m t an ad cb qu re)) 3 [.rs 1 (nums ls), .iv .u8 p 0 255 8 n] gH (isK .tt)
/-- What is left of it: the law's draws are those that were told; the part is a part. -/
def rest1 (ls : List Int) (an ad m : Int) : Prop := chs ls 0 = chs ls 0 ∧ (m = m ∧ chs ls 1 = chs ls 1) ∧ ((3 : Int) = 3 ∧ chs ls (cfA ls 1) = chs ls (cfA ls 1)) ∧ an < ad ∧ an < ad ∧ True
def rest2 (ls : List Int) (an ad m : Int) : Prop := chs ls 0 = chs ls 0 ∧ (m = m ∧ chs ls 1 = chs ls 1) ∧ ((3 : Int) = 3 ∧ chs ls (cfA ls 1) = chs ls (cfA ls 1)) ∧ an < ad ∧ True
end Go.Proofs.YtlcconkbldnkmaaGreatDoor

/- From the law's runs to its calls. No statement of the seat is proved here. -/
namespace Go.Sx
section
variable {P : Program} {V : Env}
theorem run_fin (hV : EnvOK P V) (fuel : Nat) {f : FuncId} {args : List SV} {H : HW} {s : SV} {T : TypeId} {cs : List SV} (hH : H.view = [.glob 0 T cs]) {Q : Prop} (hq : callsV P V (runV P V fuel) f args H (isK s) = Q) (h : Q) :
    ∃ h', CallGd P f args [.glob 0 T cs] s h' ∧ h'[0]? = some (.glob 0 T cs) := by
  rw [← hq] at h
  obtain ⟨s1, H', wr, h1, hc0, _, hc⟩ := callV_sound hV fuel h
  obtain ⟨rfl, hn⟩ := isK_sound h1
  have h0 := hc0 0 (by rw [hH]; simp) hn
  rw [hH] at hc h0
  exact ⟨H'.view, hc, by rw [h0]; rfl⟩
/-- A row of numbers that came in lies elsewhere than a table of numbers of another kind. -/
theorem rs_apart {w : World} {g : Nat} {T : TypeId} {vs0 : Array Value} {v : Value} {ls : List Int} (hg : w.heap[g]? = some (.cells vs0 T (0, 0))) (hk : ∀ (i : Nat) (x : Value), vs0[i]? = some x → ∃ n, x = .int .u64 n)
    (h : Rep w (fun _ => False) [] (.rs 1 (ls.map fun z => [SV.int .i64 z])) v) : Rep w (Ex (fun _ => False) [.fix g]) [.fix g] (.rs 1 (ls.map fun z => [SV.int .i64 z])) v := by
  generalize he : (ls.map fun z => [SV.int .i64 z]) = es at h
  cases h with
  | rs0 hc => exact .rs0 hc
  | @rs _ _ _ ad c val hc hm hE hlt hlen hcell hone hrep =>
    have hint : ∀ (i : Nat) (e : List SV) (j : Nat) (s : SV), es[i]? = some e → e[j]? = some s → ∃ n, s = .int .i64 n := fun i e j s h1 h2 => by
      rw [← he, List.getElem?_map] at h1
      obtain ⟨z, _, rfl⟩ := Option.map_eq_some_iff.1 h1
      match j with
      | 0 => simp at h2; exact ⟨z, h2.symm⟩
      | j + 1 => simp at h2
    by_cases hnil : es = []
    · subst hnil
      exact .rs0 (a := some ad) hm
    · refine .rs hc hm ?_ hlt hlen hcell hone fun i e j s h1 h2 => ?_
      · rintro (hx | ⟨i, e, h1, h2⟩)
        · exact hx
        · match i with
          | 0 =>
            simp at h1; subst h1
            simp [Ent.blk] at h2
            obtain ⟨e0, r, rfl⟩ := List.exists_cons_of_ne_nil hnil
            have hl := hlen 0 e0 rfl
            obtain ⟨s0, rfl⟩ : ∃ s0, e0 = [s0] := List.length_eq_one_iff.1 hl
            have hcl := hcell 0 [s0] 0 s0 rfl rfl
            obtain ⟨n, rfl⟩ := hint 0 [s0] 0 s0 rfl rfl
            have hr := hrep 0 _ 0 _ rfl rfl
            generalize val 0 0 = x at hcl hr
            cases hr
            have hb : (ad.add (0 * 1 + 0)).block = g := by rw [add_block]; exact h2.symm
            unfold World.cell? at hcl
            rw [hb, hg] at hcl
            simp only at hcl
            split at hcl
            · cases hcl
            · obtain ⟨n', hn'⟩ := hk _ _ hcl
              simp at hn'
          | i + 1 => simp at h1
      · obtain ⟨n, rfl⟩ := hint i e j s h1 h2
        have hr := hrep i e j _ h1 h2
        generalize val i j = x at hr
        cases hr
        exact .int
theorem law_callsG {f : FuncId} {fn : Func} {c : Code} {args : List SV} (hf : P.funcs[f]? = some fn) (hn : (fn.name == "runtime.NumGoroutine") = false) (hb : fn.body = some c) {g : Nat} {T : TypeId} {cs : List SV} {h' : Hp}
    (hc : CallGd P f args [.glob g T cs] .tt h') (h0 : h'[0]? = some (.glob g T cs)) (hnum : numsB cs = true) {w : World} {vs0 : Array Value} (hg : w.heap[g]? = some (.cells vs0 T (0, 0)))
    (hl : cs.length = vs0.size) (hrep : ∀ (i : Nat) (s : SV) (v : Value), cs[i]? = some s → vs0[i]? = some v → Rep w (Ex (fun _ => False) [.fix g]) [] s v ∧ v.oneCell' = true)
    {vs : List Value} (hr : RepL w (Ex (fun _ => False) [.fix g]) [.fix g] args vs) :
    Calls P f vs.toArray w fun e w' => e = .returned (.bool true) ∧ RowKit.Below w.heap.size w w' := by
  have hlt : g < w.heap.size := (Array.getElem?_eq_some_iff.1 hg).1
  have hI : Inv w (fun _ => False) [.fix g] [.glob g T cs] := by
    refine ⟨rfl, fun i b e h1 h2 => ?_, fun i e k h1 h2 => ?_, fun i j e e' k h1 h2 _ _ => ?_, fun k h => h.elim, fun k h => h.elim⟩
    · cases i with
      | zero => simp at h1 h2; subst h1; subst h2; exact ⟨rfl, vs0, hg, hl, hrep⟩
      | succ i => simp at h1
    · cases i with
      | zero => simp at h1; subst h1; simp [Ent.blk] at h2; subst h2; exact hlt
      | succ i => simp at h1
    · cases i with
      | zero => cases j with
        | zero => rfl
        | succ j => simp at h2
      | succ i => simp at h1
  have := hc.ok w (fun _ => False) [.fix g] vs hI hr
  have hcall : (callFunc f vs.toArray).run P w = .ok (.enter f vs.toArray) w := by
    have h1 : fn.name ≠ "runtime.NumGoroutine" := by simpa using hn
    simp [callFunc, hf, h1, hb]
  unfold DoneS at this
  rw [hcall] at this
  refine this.mono fun e w' ⟨v, he, s, h1, σ', ⟨e1, e2⟩, hrv, hI', hS⟩ => ?_
  subst e1; subst e2
  have hlt' : 0 < σ'.length := by rw [hI'.len]; exact (List.getElem?_eq_some_iff.1 h0).1
  have he' : σ'[0]? = some (σ'[0]'hlt') := List.getElem?_eq_getElem hlt'
  have hok' := hI'.ok 0 _ _ h0 he'
  refine ⟨?_, ⟨hS.os, hS.tape, hS.output, hS.size, fun k hk => ?_⟩⟩
  · rw [he]
    cases hrv
    rfl
  · by_cases hkg : k = g
    · subst hkg
      generalize σ'[0]'hlt' = e at hok'
      cases e <;> simp only [BlkOK] at hok'
      obtain ⟨rfl, vs', b1, b2, b3⟩ := hok'
      rw [b1, hg, ints_eq hnum hl b2 hrep b3]
    · refine hS.frame k hk fun ⟨i, e, h1, h2⟩ => ?_
      cases i with
      | zero => simp at h1; subst h1; simp [Ent.blk] at h2; exact hkg h2.symm
      | succ i => simp at h1
/-! ### what is known of a value -/
theorem know_iv {k : IntKind} {x lo hi : Int} (h1 : lo ≤ x) (h2 : x ≤ hi) : Know (.int k x) (.iv k x lo hi 1 0) := fun _ _ _ _ hr => by cases hr; exact .iv h1 h2 (Int.emod_one x)
theorem know_any {s : SV} : Know s .any := fun _ _ _ _ _ => .any
def Knows (l l' : List SV) : Prop := l.length = l'.length ∧ ∀ (i : Nat) (s s' : SV), l[i]? = some s → l'[i]? = some s' → Know s s'
theorem knows_nil : Knows [] [] := ⟨rfl, by simp⟩
theorem knows_cons {a b : SV} {l l' : List SV} (h : Know a b) (hl : Knows l l') : Knows (a :: l) (b :: l') :=
  ⟨by simp [hl.1], fun i s s' h1 h2 => by
    cases i with
    | zero => simp at h1 h2; subst h1; subst h2; exact h
    | succ i => exact hl.2 i s s' (by simpa using h1) (by simpa using h2)⟩
theorem know_agg {l l' : List SV} (h : Knows l l') : Know (.agg l) (.agg l') := fun w E σ v hr => by
  cases hr with
  | agg hl h1 hc =>
    refine .agg (by rw [← h.1]; exact hl) h1 fun i s v hs hv => ?_
    have hi : i < l.length := by rw [h.1]; exact (List.getElem?_eq_some_iff.1 hs).1
    exact h.2 i _ s (List.getElem?_eq_getElem hi) hs w E σ v (hc i _ v (List.getElem?_eq_getElem hi) hv)
end
end Go.Sx

/- Part of the executor and its soundness, or of what it is told of this seat's program. No statement of the seat is proved here. -/
import Derived.Test.YtbppedokdfmnoaaGreatDoorTb
import Derived.Test.YtbppedokdfmnoaaGreatDoorSx4
import Derived.Test.YtbppedokdfmnoaaGreatDoorMe
import Derived.Test.YtbppedokdfmnoaaGreatDoorSp
set_option linter.unusedSimpArgs false
set_option linter.unusedVariables false
namespace Go.Proofs.YtbppedokdfmnoaaGreatDoor
open Go.Sx
theorem mixed : Tryz.prog.follows .mixedOrders = true := by kernel_rfl
def nums (ls : List Int) : List (List SV) := ls.map fun z => [.int .i64 z]
theorem nums_len (ls : List Int) : (nums ls).length = ls.length := by simp [nums]
def raw (ls : List Int) (at' : Int) : Int := if at' < (ls.length : Int) then ls.getD at'.toNat 0 else IntKind.i64.wrap (IntKind.i64.wrap (7 * at') + 3)
def nxt (ls : List Int) (at' n : Int) : Int := if n < 1 then 0 else raw ls at' % n
def chs (ls : List Int) (at' : Int) : Blk := .fix 56 [.rs 1 (nums ls), .int .i64 at']
theorem w64 (n : Int) (h0 : -9223372036854775808 <= n) (h1 : n <= 9223372036854775807) : IntKind.i64.wrap n = n := by rw [IntKind.wrap_i64]; omega
theorem tmod_neg {v n : Int} (hn : 0 < n) (h : v.tmod n < 0) : v.tmod n + n = v % n := by
 rw [Int.tmod_eq_emod] at *
 split at h
 ·have := Int.emod_nonneg v (b := n) (by omega); omega
 ·rename_i hc; rw [if_neg hc]; omega
theorem tmod_pos {v n : Int} (hn : 0 < n) (h : 0 <= v.tmod n) : v.tmod n = v % n := by
 rw [Int.tmod_eq_emod] at *
 split at h
 ·rename_i hc; rw [if_pos hc]; omega
 ·have := Int.emod_lt_of_pos v (b := n) hn; omega
theorem next_s (ls : List Int) (at' n : Int) (h0 : 0 <= at') (h1 : at' < 9223372036854775807) (n1 : n <= 9223372036854775807) :
  OSpec Tryz.prog 6 [.ptr 0 0, .int .i64 n] [chs ls at'] fun s ho => s = .int .i64 (nxt ls at' n) /\ ho = [chs ls (at' + 1)] := by
 refine .of_code tab_ok Tryz.func6 (by rfl) rfl trivial ?_
 conv => whnf
 refine DrawG.of mixed tab_ok ?_
 conv => whnf
 refine ⟨by kernel_rfl, ?_⟩
 conv => whnf
 have hget : at' < (ls.length : Int) -> (nums ls)[at'.toNat]? = some [.int .i64 (ls.getD at'.toNat 0)] := fun h => by
  have : at'.toNat < ls.length := by omega
  simp [nums, List.getD, List.getElem?_eq_getElem this]
 refine ⟨fun hb => ?_, fun hb => ?_⟩
 ·have hb' : at' < (ls.length : Int) := by simpa [nums_len] using hb
  have hraw : raw ls at' = ls.getD at'.toNat 0 := by simp [raw, hb']
  conv => whnf
  refine DrawG.of mixed tab_ok ?_
  conv => whnf
  refine ⟨⟨h0, by rw [nums_len]; exact hb'⟩, ?_⟩
  conv => whnf
  refine ⟨_, hget hb', ?_⟩
  conv => whnf
  refine ⟨by kernel_rfl, ?_⟩
  conv => whnf
  generalize hv : ls.getD at'.toNat 0 = v at *
  refine ⟨fun hn => ?_, fun hn => ?_⟩
  ·conv => whnf
   have hn : n < 1 := by simpa using hn
   rw [w64 (at' + 1) (by omega) (by omega)]
   exact ⟨by simp [nxt, hn], rfl⟩
  ·conv => whnf
   have hn : ¬ n < 1 := by simpa using hn
   refine ⟨by omega, ?_⟩
   conv => whnf
   refine ⟨fun hm => ?_, fun hm => ?_⟩
   ·conv => whnf
    rw [w64 (at' + 1) (by omega) (by omega)]
    have e : nxt ls at' n = v % n := by simp [nxt, hn, hraw]
    have hm : v.tmod n < 0 := by simpa using hm
    have e2 : v.tmod n + n = v % n := tmod_neg (by omega) hm
    refine ⟨?_, rfl⟩
    rw [e, <- e2, w64 _ (by have := Int.emod_nonneg v (b := n) (by omega); omega) (by have := Int.emod_lt_of_pos v (b := n) (by omega); omega)]
   ·conv => whnf
    rw [w64 (at' + 1) (by omega) (by omega)]
    have e : nxt ls at' n = v % n := by simp [nxt, hn, hraw]
    have hm : ¬ v.tmod n < 0 := by simpa using hm
    refine ⟨?_, rfl⟩
    rw [e, tmod_pos (by omega) (by omega)]
 ·have hraw : raw ls at' = IntKind.i64.wrap (IntKind.i64.wrap (7 * at') + 3) := by
   have : ¬ at' < (ls.length : Int) := by simpa [nums_len] using hb
   simp [raw, this]
  generalize IntKind.i64.wrap (IntKind.i64.wrap (7 * at') + 3) = v at *
  conv => whnf
  refine ⟨fun hn => ?_, fun hn => ?_⟩
  ·conv => whnf
   have hn : n < 1 := by simpa using hn
   rw [w64 (at' + 1) (by omega) (by omega)]
   exact ⟨by simp [nxt, hn], rfl⟩
  ·conv => whnf
   have hn : ¬ n < 1 := by simpa using hn
   refine ⟨by omega, ?_⟩
   conv => whnf
   refine ⟨fun hm => ?_, fun hm => ?_⟩
   ·conv => whnf
    rw [w64 (at' + 1) (by omega) (by omega)]
    have e : nxt ls at' n = v % n := by simp [nxt, hn, hraw]
    have hm : v.tmod n < 0 := by simpa using hm
    have e2 : v.tmod n + n = v % n := tmod_neg (by omega) hm
    refine ⟨?_, rfl⟩
    rw [e, <- e2, w64 _ (by have := Int.emod_nonneg v (b := n) (by omega); omega) (by have := Int.emod_lt_of_pos v (b := n) (by omega); omega)]
   ·conv => whnf
    rw [w64 (at' + 1) (by omega) (by omega)]
    have e : nxt ls at' n = v % n := by simp [nxt, hn, hraw]
    have hm : ¬ v.tmod n < 0 := by simpa using hm
    refine ⟨?_, rfl⟩
    rw [e, tmod_pos (by omega) (by omega)]
theorem nxt_lo (ls : List Int) (at' n : Int) : 0 <= nxt ls at' n := by
 unfold nxt
 split
 ·omega
 ·exact Int.emod_nonneg _ (by omega)
theorem nxt_hi (ls : List Int) (at' n : Int) (hn : 1 <= n) : nxt ls at' n < n := by
 unfold nxt
 rw [if_neg (by omega)]
 exact Int.emod_lt_of_pos _ (by omega)
end Go.Proofs.YtbppedokdfmnoaaGreatDoor

namespace Go.Proofs.YtbppedokdfmnoaaGreatDoor
open Go.Sx
set_option linter.unusedSimpArgs false
set_option linter.unusedVariables false
structure Cf where
 mo : Int
 an : Int
 ad : Int
 pk : Int
 pq : Int
 pn : Int
 cp : Int
 cb : Int
 ca : Int
 tr : Int
 wi : Int
 qu : Int
 cy : Int
 re : Int
 rs : List (Int × Int)
abbrev rtE (r : Int × Int) : List SV := [.int .i64 r.1, .int .i64 r.2]
abbrev cfC (c : Cf) : List SV := [.int .i64 c.mo, .int .i64 c.an, .int .i64 c.ad, .int .i64 c.pk, .int .i64 c.pq, .int .i64 c.pn, .int .i64 c.cp, .int .i64 c.cb, .int .i64 c.ca, .int .i64 c.tr, .int .i64 c.wi, .int .i64 c.qu, .int .i64 c.cy, .int .i64 c.re, .rs 2 (c.rs.map rtE)]
abbrev cfE (c : Cf) : SV := .agg (cfC c)
theorem gl_get {l : List Int} {i : Int} (h0 : 0 <= i) (h1 : i < l.length) : (nums l)[i.toNat]? = some [SV.int .i64 (l.getD i.toNat 0)] := by
 have : i.toNat < l.length := by omega
 simp [nums, List.getD, List.getElem?_eq_getElem this]
def als : List (Int × Int) := [(1, 2), (9, 10), (1, 10), (2, 3), (1048575, 1048576), (1, 1048576)]
def alx (ls : List Int) (at' : Int) : Int × Int := als.getD (nxt ls at' 6).toNat (0, 0)
theorem als_get {i : Int} (h0 : 0 <= i) (h1 : i < 6) : (als.map fun p => [SV.int .i64 p.1, SV.int .i64 p.2])[i.toNat]? = some [SV.int .i64 (als.getD i.toNat (0, 0)).1, SV.int .i64 (als.getD i.toNat (0, 0)).2] := by
 have hl : i.toNat < als.length := by show i.toNat < 6; omega
 rw [List.getElem?_map, List.getElem?_eq_getElem hl]
 simp [List.getD, List.getElem?_eq_getElem hl]
theorem galpha_s (ls : List Int) (at' : Int) (h0 : 0 <= at') (h1 : at' < 9223372036854775800) :
  OSpec Tryz.prog 15 [.ptr 0 0] [chs ls at'] fun s ho => s = .agg [.int .i64 (alx ls at').1, .int .i64 (alx ls at').2] /\ ho = [chs ls (at' + 1)] := by
 refine .of_code tab_ok Tryz.func15 (by rfl) rfl trivial ?_
 conv => whnf
 refine (next_s _ _ _ (by first | omega | assumption | decide | simp) (by first | omega | assumption | decide | simp) (by first | omega | assumption | decide | simp)).call [0] (by decide) (And.intro rfl trivial) (And.intro rfl trivial) ?_
 rintro _ _ ⟨rfl, rfl⟩
 conv => whnf
 refine ⟨by exact ⟨nxt_lo _ _ _, nxt_hi _ _ _ (by omega)⟩, ?_⟩
 conv => whnf
 refine ⟨_, als_get (nxt_lo _ _ _) (nxt_hi _ _ _ (by decide)), ?_⟩
 conv => whnf
 refine ⟨by rfl, ?_⟩
 conv => whnf
def pkN (ls : List Int) (a : Int) : Int := 1 + nxt ls (a + 1) 5
def pkK (ls : List Int) (a : Int) : Int := if nxt ls a 3 = 0 then 2 else if nxt ls a 3 = 1 then 1 else 0
def pkA (ls : List Int) (a : Int) : Int := if nxt ls a 3 = 0 then 0 else if nxt ls a 3 = 1 then 1 + nxt ls (a + 1 + 1) (pkN ls a) else 0
def pkB (ls : List Int) (a : Int) : Int := if nxt ls a 3 = 0 then 0 else if nxt ls a 3 = 1 then pkN ls a else 0
def pkP (ls : List Int) (a : Int) : Int := if nxt ls a 3 = 0 then a + 1 else if nxt ls a 3 = 1 then a + 1 + 1 + 1 else a + 1
theorem pkN_rng (ls : List Int) (a : Int) : 1 <= pkN ls a /\ pkN ls a <= 5 := by
 have n0 := nxt_lo ls (a + 1) 5
 have n1 := nxt_hi ls (a + 1) 5 (by omega)
 unfold pkN; omega
theorem pkP_rng (ls : List Int) (a : Int) : a <= pkP ls a /\ pkP ls a <= a + 3 := by unfold pkP; split <;> (try split) <;> omega
theorem gpred_s (ls : List Int) (a : Int) (h0 : 0 <= a) (h1 : a < 9223372036854775000) :
  OSpec Tryz.prog 16 [.ptr 0 0] [chs ls a] fun s ho => s = .agg [.int .i64 (pkK ls a), .int .i64 (pkA ls a), .int .i64 (pkB ls a)] /\ ho = [chs ls (pkP ls a)] := by
 refine .of_code tab_ok Tryz.func16 (by rfl) rfl trivial ?_
 have n0 := nxt_lo ls (a + 1) 5
 have n1 := nxt_hi ls (a + 1) 5 (by omega)
 obtain ⟨r0, r1⟩ := pkN_rng ls a
 have m0 := nxt_lo ls (a + 1 + 1) (pkN ls a)
 have m1 := nxt_hi ls (a + 1 + 1) (pkN ls a) (by omega)
 have w1 : IntKind.i64.wrap (1 + nxt ls (a + 1) 5) = pkN ls a := by unfold pkN; rw [w64 _ (by omega) (by omega)]
 have w2 : IntKind.i64.wrap (1 + nxt ls (a + 1 + 1) (pkN ls a)) = 1 + nxt ls (a + 1 + 1) (pkN ls a) := w64 _ (by omega) (by omega)
 conv => whnf
 refine (next_s _ _ _ (by first | omega | assumption | decide | simp) (by first | omega | assumption | decide | simp) (by first | omega | assumption | decide | simp)).call [0] (by decide) (And.intro rfl trivial) (And.intro rfl trivial) ?_
 rintro _ _ ⟨rfl, rfl⟩
 by_cases h0 : nxt ls a 3 = 0
 ·have e1 : pkK ls a = 2 := by simp [pkK, h0]
  have e2 : pkA ls a = 0 := by simp [pkA, h0]
  have e3 : pkB ls a = 0 := by simp [pkB, h0]
  have e4 : pkP ls a = a + 1 := by simp [pkP, h0]
  rw [e1, e2, e3, e4]
  conv => whnf
  refine both_t (by exact decide_eq_true h0) ?_
  conv => whnf
  refine ⟨by rfl, ?_⟩
  conv => whnf
 ·by_cases h1 : nxt ls a 3 = 1
  ·have e1 : pkK ls a = 1 := by simp [pkK, h1]
   have e2 : pkA ls a = 1 + nxt ls (a + 1 + 1) (pkN ls a) := by simp [pkA, h1]
   have e3 : pkB ls a = pkN ls a := by simp [pkB, h1]
   have e4 : pkP ls a = a + 1 + 1 + 1 := by simp [pkP, h1]
   rw [e1, e2, e3, e4]
   conv => whnf
   refine both_f (by exact decide_eq_false h0) ?_
   conv => whnf
   refine both_t (by exact decide_eq_true h1) ?_
   conv => whnf
   refine (next_s _ _ _ (by first | omega | assumption | decide | simp) (by first | omega | assumption | decide | simp) (by first | omega | assumption | decide | simp)).call [0] (by decide) (And.intro rfl trivial) (And.intro rfl trivial) ?_
   rintro _ _ ⟨rfl, rfl⟩
   have p1 : 0 < IntKind.i64.wrap (1 + nxt ls (a + 1) 5) := by rw [w1]; omega
   conv => whnf
   refine (next_s _ _ _ (by first | omega | assumption | decide | simp) (by first | omega | assumption | decide | simp) (by first | omega | assumption | decide | simp)).call [0] (by decide) (And.intro rfl trivial) (And.intro rfl trivial) ?_
   rintro _ _ ⟨rfl, rfl⟩
   conv => whnf
   refine ⟨by simp [*], ?_⟩
   conv => whnf
  ·have e1 : pkK ls a = 0 := by simp [pkK, h0, h1]
   have e2 : pkA ls a = 0 := by simp [pkA, h0, h1]
   have e3 : pkB ls a = 0 := by simp [pkB, h0, h1]
   have e4 : pkP ls a = a + 1 := by simp [pkP, h0, h1]
   rw [e1, e2, e3, e4]
   conv => whnf
   refine both_f (by exact decide_eq_false h0) ?_
   conv => whnf
   refine both_f (by exact decide_eq_false h1) ?_
   conv => whnf
   refine ⟨by rfl, ?_⟩
   conv => whnf
def wiL : List Int := [1, 2, 4, 64]
def quL : List Int := [256, 1000, 5000]
def cyL : List Int := [512, 20, 6]
def reL : List Int := [1099511627776, 1, 268435456, 1073741824]
def cfX (ls : List Int) (a m : Int) : Cf := ⟨m, (alx ls a).1, (alx ls a).2, pkK ls (a + 1), pkA ls (a + 1), pkB ls (a + 1), 1 + nxt ls (pkP ls (a + 1)) 4, 4096 + 2000 * nxt ls (pkP ls (a + 1) + 1) 3, 1048576,
 1 + nxt ls (pkP ls (a + 1) + 1 + 1) 4, wiL.getD (nxt ls (pkP ls (a + 1) + 1 + 1 + 1) 4).toNat 0, quL.getD (nxt ls (pkP ls (a + 1) + 1 + 1 + 1 + 1) 3).toNat 0, cyL.getD (nxt ls (pkP ls (a + 1) + 1 + 1 + 1 + 1 + 1) 3).toNat 0, reL.getD (nxt ls (pkP ls (a + 1) + 1 + 1 + 1 + 1 + 1 + 1) 4).toNat 0, [(6000, 100), (54000, 50)]⟩
def cfA (ls : List Int) (a : Int) : Int := pkP ls (a + 1) + 1 + 1 + 1 + 1 + 1 + 1 + 1
set_option maxRecDepth 100000 in
set_option maxHeartbeats 8000000 in
theorem gcfg_s (ls : List Int) (a m : Int) (h0 : 0 <= a) (h1 : a < 9223372036854774000) :
  OSpec Tryz.prog 5 [.ptr 0 0, .int .i64 m] [chs ls a] fun s ho => s = cfE (cfX ls a m) /\ ho = [chs ls (cfA ls a)] := by
 refine .of_code tab_ok Tryz.func5 (by rfl) rfl trivial ?_
 obtain ⟨b, hb⟩ : ∃ b, b = pkP ls (a + 1) := ⟨_, rfl⟩
 have hr := pkP_rng ls (a + 1)
 rw [<- hb] at hr
 unfold cfX cfA
 rw [<- hb]
 have a0 := nxt_lo ls b 4
 have a1 := nxt_hi ls b 4 (by omega)
 have b0 := nxt_lo ls (b + 1) 3
 have b1 := nxt_hi ls (b + 1) 3 (by omega)
 have c0 := nxt_lo ls (b + 1 + 1) 4
 have c1 := nxt_hi ls (b + 1 + 1) 4 (by omega)
 have d0 := nxt_lo ls (b + 1 + 1 + 1) 4
 have d1 := nxt_hi ls (b + 1 + 1 + 1) 4 (by omega)
 have e0 := nxt_lo ls (b + 1 + 1 + 1 + 1) 3
 have e1 := nxt_hi ls (b + 1 + 1 + 1 + 1) 3 (by omega)
 have f0 := nxt_lo ls (b + 1 + 1 + 1 + 1 + 1) 3
 have f1 := nxt_hi ls (b + 1 + 1 + 1 + 1 + 1) 3 (by omega)
 have g0 := nxt_lo ls (b + 1 + 1 + 1 + 1 + 1 + 1) 4
 have g1 := nxt_hi ls (b + 1 + 1 + 1 + 1 + 1 + 1) 4 (by omega)
 have hp := gpred_s ls (a + 1) (by omega) (by omega)
 rw [<- hb] at hp
 have w1 : IntKind.i64.wrap (1 + nxt ls b 4) = 1 + nxt ls b 4 := w64 _ (by omega) (by omega)
 have w2 : IntKind.i64.wrap (4096 + IntKind.i64.wrap (2000 * nxt ls (b + 1) 3)) = 4096 + 2000 * nxt ls (b + 1) 3 := by rw [w64 (2000 * nxt ls (b + 1) 3) (by omega) (by omega), w64 _ (by omega) (by omega)]
 have w3 : IntKind.i64.wrap (1 + nxt ls (b + 1 + 1) 4) = 1 + nxt ls (b + 1 + 1) 4 := w64 _ (by omega) (by omega)
 conv => whnf
 refine (galpha_s ls a (by omega) (by omega)).call [0] (by decide) trivial (And.intro rfl trivial) ?_
 rintro _ _ ⟨rfl, rfl⟩
 conv => whnf
 refine hp.call [0] (by decide) trivial (And.intro rfl trivial) ?_
 rintro _ _ ⟨rfl, rfl⟩
 conv => whnf
 refine (next_s _ _ _ (by first | omega | assumption | decide | simp) (by first | omega | assumption | decide | simp) (by first | omega | assumption | decide | simp)).call [0] (by decide) (And.intro rfl trivial) (And.intro rfl trivial) ?_
 rintro _ _ ⟨rfl, rfl⟩
 conv => whnf
 refine (next_s _ _ _ (by first | omega | assumption | decide | simp) (by first | omega | assumption | decide | simp) (by first | omega | assumption | decide | simp)).call [0] (by decide) (And.intro rfl trivial) (And.intro rfl trivial) ?_
 rintro _ _ ⟨rfl, rfl⟩
 conv => whnf
 refine DrawG.of mixed tab_ok ?_
 conv => whnf
 refine (next_s _ _ _ (by first | omega | assumption | decide | simp) (by first | omega | assumption | decide | simp) (by first | omega | assumption | decide | simp)).calld [0] (by decide) rfl (And.intro rfl trivial) (And.intro rfl trivial) ?_
 conv => whnf
 refine (next_s _ _ _ (by first | omega | assumption | decide | simp) (by first | omega | assumption | decide | simp) (by first | omega | assumption | decide | simp)).calld [0] (by decide) rfl (And.intro rfl trivial) (And.intro rfl trivial) ?_
 conv => whnf
 refine ⟨by simp; omega, ?_⟩
 conv => whnf
 refine ⟨_, gl_get (l := wiL) d0 d1, ?_⟩
 conv => whnf
 refine (next_s _ _ _ (by first | omega | assumption | decide | simp) (by first | omega | assumption | decide | simp) (by first | omega | assumption | decide | simp)).calld [0] (by decide) rfl (And.intro rfl trivial) (And.intro rfl trivial) ?_
 conv => whnf
 refine ⟨by simp; omega, ?_⟩
 conv => whnf
 refine ⟨_, gl_get (l := quL) e0 e1, ?_⟩
 conv => whnf
 refine (next_s _ _ _ (by first | omega | assumption | decide | simp) (by first | omega | assumption | decide | simp) (by first | omega | assumption | decide | simp)).calld [0] (by decide) rfl (And.intro rfl trivial) (And.intro rfl trivial) ?_
 conv => whnf
 refine ⟨by simp; omega, ?_⟩
 conv => whnf
 refine ⟨_, gl_get (l := cyL) f0 f1, ?_⟩
 conv => whnf
 refine ⟨by kernel_rfl, ?_⟩
 conv => whnf
 refine (next_s _ _ _ (by first | omega | assumption | decide | simp) (by first | omega | assumption | decide | simp) (by first | omega | assumption | decide | simp)).call [0] (by decide) (And.intro rfl trivial) (And.intro rfl trivial) ?_
 rintro _ _ ⟨rfl, rfl⟩
 conv => whnf
 refine ⟨by simp; omega, ?_⟩
 conv => whnf
 refine ⟨_, gl_get (l := reL) g0 g1, ?_⟩
 conv => whnf
 refine ⟨by simp; omega, ?_⟩
 conv => whnf
end Go.Proofs.YtbppedokdfmnoaaGreatDoor

namespace Go.Proofs.YtbppedokdfmnoaaGreatDoor
open Go.Sx
noncomputable def loopsC (c : Code) : List Code := Code.rec (motive := fun _ => List Code) [] (fun _ _ _ => []) (fun _ _ a b => a ++ b) (fun _ _ _ a b => a ++ b) (fun _ _ a => a) (fun c a => c :: a) (fun _ _ _ _ _ _ => []) (fun _ => []) (fun _ a => a) (fun _ => []) (fun _ => []) [] (fun _ => []) c
noncomputable def bodyOf (f : Func) : Code := f.body.getD .skip
def chan (N c lo hi : Int) : List SV := [.int .i64 0, .int .i64 0, .int .i64 0] ++ (List.range 32).map (fun (j : Nat) => SV.bool (decide ((j : Int) < N + c))) ++ [.bs .i64 N c lo hi, .bs .i64 N c lo hi, .ff, .ff]
noncomputable def chanK (cs : List SV) (k : Int -> Int -> Int -> Int -> Prop) : Prop := dropK 35 cs fun r => match r with
 | [.bs .i64 N c lo hi, _, .ff, .ff] => bChk (Go.Sx.leI 1 lo) (bChk (Go.Sx.leI hi 100000) (cs = chan N c lo hi /\ k N c lo hi))
 | _ => False
noncomputable def prdH : HSp := fun l H K => match l with
 | [.ptr b 0] => getH H b fun blk => match blk with
  | .fix T cs => bChk (Nat.beq T 299) (chanK cs fun _ _ _ _ => K .tt H [])
  | _ => False
 | _ => False
noncomputable def obsH : HSp := fun l H K => match l with
 | [.ptr b 0, .tt] => getH H b fun blk => match blk with
  | .fix T cs => bChk (Nat.beq T 299) (chanK cs fun N c lo hi => intF (addI c 1) fun c' => intF (addI lo 1) fun lo' => intF (addI hi 1) fun hi' => setH H b (.fix 299 (chan N c' lo' hi')) fun H' => K (.tup []) H' [b])
  | _ => False
 | _ => False
end Go.Proofs.YtbppedokdfmnoaaGreatDoor

namespace Go.Sx
section
variable {P : Program}
theorem setK_of {α : Type} {l : List α} : ∀ {n : Nat} {v : α} {k : List α -> Prop}, n < l.length -> k (l.set n v) -> setK l n v k := by
 induction l with
 | nil => intro n v k h; simp at h
 | cons x l ih =>
  intro n v k h hk
  cases n with
  | zero => exact hk
  | succ n => exact ih (k := fun l' => k (x :: l')) (by simpa using h) hk
theorem CallL.of_ospec {f : FuncId} {args args' : List SV} {blk blk' : Blk} {s0 s1 : SV} (hs : OSpec P f args [blk] fun s ho => s = s0 /\ ho = [blk']) (hkn : Know s0 s1) {H : HW} {b : Nat} {K : KV3} (ha : argsK [b] args args' True)
  (hb : H.view[b]? = some blk) (hk : setH H b blk' fun H' => K s1 H' [b]) : CallL P f args' H K := by
 obtain ⟨H', hk, hlt, hv⟩ := setH_sound hk
 refine ⟨s1, H', [b], hk, fun i hi hn => ?_, by rw [hv]; simp, ⟨fun w X σ vs hI hr => ?_⟩⟩
 ·rw [hv, List.getElem?_set_ne]
  intro hbi; subst hbi; simp at hn
 ·have hc := hs.call [b] (by simp) (h := H.view) (K := fun s h => s = s0 /\ h = H.view.set b blk') ha (nthK_mk hb ⟨rfl, trivial⟩) (fun s ho ⟨e1, e2⟩ => by
   subst e2
   exact setK_of hlt ⟨e1, rfl⟩)
  refine (hc.ok w X σ vs hI hr).mono fun v w' ⟨s, h1, σ', ⟨e1, e2⟩, a1, a2, a3⟩ => ?_
  subst e1; subst e2
  exact ⟨s1, H'.view, σ', ⟨rfl, rfl⟩, hkn _ _ _ _ a1, by rw [hv]; exact a2, a3⟩
theorem eqNK_self {b : Nat} {k : Prop} (h : k) : eqNK b b k := by
 unfold eqNK
 rw [Nat.beq_refl]
 exact h
theorem arg1 {b : Nat} : argsK [b] [.ptr 0 0] [.ptr b 0] True := eqNK_self (eqNK_self (k := True) trivial)
theorem arg2 {b : Nat} {k : IntKind} {n : Int} : argsK [b] [.ptr 0 0, .int k n] [.ptr b 0, .int k n] True := eqNK_self (eqNK_self (k := (SV.int k n = SV.int k n /\ True)) ⟨rfl, trivial⟩)
theorem CallL.of_ospecR {f : FuncId} {args args' : List SV} {blk : Blk} {s0 s1 : SV} (hs : OSpec P f args [blk] fun s ho => s = s0 /\ ho = [blk]) (hkn : Know s0 s1) {H : HW} {b : Nat} {K : KV3} (ha : argsK [b] args args' True)
  (hb : H.view[b]? = some blk) (hk : K s1 H []) : CallL P f args' H K := by
 have hsame : H.view.set b blk = H.view := by
  obtain ⟨hlt, hg⟩ := List.getElem?_eq_some_iff.1 hb
  rw [<- hg]; exact List.set_getElem_self hlt
 refine ⟨s1, H, [], hk, fun i hi hn => rfl, Nat.le_refl _, ⟨fun w X σ vs hI hr => ?_⟩⟩
 have hc := hs.call [b] (by simp) (h := H.view) (K := fun s h => s = s0 /\ h = H.view.set b blk) ha (nthK_mk hb ⟨rfl, trivial⟩) (fun s ho ⟨e1, e2⟩ => by
  subst e2
  exact setK_of (List.getElem?_eq_some_iff.1 hb).1 ⟨e1, rfl⟩)
 refine (hc.ok w X σ vs hI hr).mono fun v w' ⟨s, h1, σ', ⟨e1, e2⟩, a1, a2, a3⟩ => ?_
 subst e1; subst e2
 exact ⟨s1, H.view, σ', ⟨rfl, rfl⟩, hkn _ _ _ _ a1, by rw [<- hsame]; exact a2, a3⟩
end
end Go.Sx

namespace Go.Sx
section
variable {P : Program}
theorem run_eq {V : Env} (hV : EnvOK P V) (fuel : Nat) {f : FuncId} {l : List SV} {H : HW} {K : KV3} {Q : Prop} (hq : callsV P V (runV P V fuel) f l H K = Q) (h : Q) : ∃ s H' wc, K s H' wc /\ Chg H.view H'.view wc /\ H.view.length <= H'.view.length /\ CallGd P f l H.view s H'.view :=
 callV_sound hV fuel (by rw [hq]; exact h)
theorem OSpec.of_gd {f : FuncId} {args : List SV} {blk blk' : Blk} {s : SV} (hc : CallGd P f args [blk] s [blk']) (h1 : FreeBlk blk) (h2 : FreeBlk blk') (hs : FreeSV s) : OSpec P f args [blk] fun s1 ho => s1 = s /\ ho = [blk'] where
 fin := by simpa using h1
 ok := fun w X σ vs hI hr => (hc.ok w X σ vs hI hr).mono fun v w' ⟨s1, h, σ', ⟨e1, e2⟩, a1, a2, a3⟩ => by
  subst e1; subst e2
  exact ⟨s1, [blk'], σ', ⟨rfl, rfl⟩, rfl, hs, by simpa using h2, hs _ _ _ _ _ a1, a2, by rw [show σ.length = 1 from hI.len] at a3; exact a3⟩
theorem OSpec.never {f : FuncId} {args : List SV} {hin : Hp} {R : SV -> Hp -> Prop} (h1 : ∀ b ∈ hin, FreeBlk b) (h : ∀ (w : World) (X : Nat -> Prop) (σ : Sg), Inv w X σ hin -> False) : OSpec P f args hin R :=
 ⟨h1, fun w X σ _ hI _ => (h w X σ hI).elim⟩
theorem OSpec.words {f : FuncId} {args : List SV} {a b a' b' : Blk} {s : SV} (hs : OSpec P f args [b] fun s1 ho => s1 = s /\ ho = [b']) (h1 : ∀ (w : World) (E : Nat -> Prop) (σ : Sg) (e : Ent), BlkOK w E σ a e -> BlkOK w E σ b e) (h2 : BW b' a') (fa : FreeBlk a) (fa' : FreeBlk a') :
  OSpec P f args [a] fun s1 ho => s1 = s /\ ho = [a'] where
 fin := by simpa using fa
 ok := fun w X σ vs hI hr => by
  have hI1 : Inv w X σ [b] := by
   have := hI.conv (b := 0) (x := a) (y := b) rfl fun e _ h => h1 _ _ _ _ h
   exact this
  refine (hs.ok w X σ vs hI1 hr).mono fun v w' ⟨s1, ho, σ', ⟨e1, e2⟩, _, fs, _, r1, r2, r3⟩ => ?_
  subst e1; subst e2
  have := r2.conv (b := 0) (x := b') (y := a') rfl fun e _ h => h2 _ _ _ _ h
  exact ⟨s1, [a'], σ', ⟨rfl, rfl⟩, rfl, fs, by simpa using fa', r1, this, r3⟩
end
end Go.Sx

namespace Go.Proofs.YtbppedokdfmnoaaGreatDoor
open Go.Sx
noncomputable def hw1 (b : Blk) : HW := hwT 1 ⟨⟨b, .dead, .dead, .dead, .dead, .dead, .dead, .dead, .dead, .dead, .dead, .dead, .dead, .dead, .dead, .dead⟩, R16.rep .dead, R16.rep .dead, R16.rep .dead, R16.rep .dead, R16.rep .dead, R16.rep .dead, R16.rep .dead, R16.rep .dead, R16.rep .dead, R16.rep .dead, R16.rep .dead, R16.rep .dead, R16.rep .dead, R16.rep .dead, R16.rep .dead⟩
theorem hw1_view (b : Blk) : (hw1 b).view = [b] := by kernel_rfl
noncomputable def cellR (s : Nat -> Bool) (r j : Nat) : SV := Bool.rec (motive := fun _ => SV) (.bool (s j)) .tt (Nat.beq j ((r + 31) % 32))
noncomputable def cellS (s : Nat -> Bool) (r j : Nat) : SV := Bool.rec (motive := fun _ => SV) (cellR s r j) .tt (Nat.beq j r)
noncomputable def chanR (s : Nat -> Bool) (r : Nat) (x : Int) : List SV := [.int .i64 0, .int .i64 0, .int .i64 0] ++ (List.range 32).map (cellR s r) ++ [.iv .i64 x 1 100000 32 (r : Int), .iv .i64 x 1 100000 1 0, .ff, .ff]
noncomputable def chanS (s : Nat -> Bool) (r : Nat) (x : Int) : List SV := [.int .i64 0, .int .i64 0, .int .i64 0] ++ (List.range 32).map (cellS s r) ++ [.iv .i64 (x + 1) 2 100001 32 (((r + 1) % 32 : Nat) : Int), .iv .i64 (x + 1) 2 100001 1 0, .ff, .ff]
def obsQ (s : Nat -> Bool) (r : Nat) (x : Int) : Prop := callsV Tryz.prog env0 (run env0) 74 [.ptr 0 0, .tt] (hw1 (.fix 299 (chanR s r x))) fun v H' _ => v = .tup [] /\ H' = hw1 (.fix 299 (chanS s r x))
def obsA (s : Nat -> Bool) (r : Nat) (x : Int) : Prop := SV.tup [] = SV.tup [] /\ hw1 (.fix 299 (chanS s r x)) = hw1 (.fix 299 (chanS s r x))
def prdQ (s : Nat -> Bool) (r : Nat) (x : Int) : Prop := callsV Tryz.prog env0 (run env0) 144 [.ptr 0 0] (hw1 (.fix 299 (chanR s r x))) fun v H' _ => v = .tt /\ H' = hw1 (.fix 299 (chanR s r x))
def prdA (s : Nat -> Bool) (r : Nat) (x : Int) : Prop := SV.tt = SV.tt /\ hw1 (.fix 299 (chanR s r x)) = hw1 (.fix 299 (chanR s r x))
theorem obs0 (s : Nat -> Bool) (x : Int) : obsQ s 0 x = obsA s 0 x := by kernel_rfl
theorem prd0 (s : Nat -> Bool) (x : Int) : prdQ s 0 x = prdA s 0 x := by kernel_rfl
theorem obs1 (s : Nat -> Bool) (x : Int) : obsQ s 1 x = obsA s 1 x := by kernel_rfl
theorem prd1 (s : Nat -> Bool) (x : Int) : prdQ s 1 x = prdA s 1 x := by kernel_rfl
theorem obs2 (s : Nat -> Bool) (x : Int) : obsQ s 2 x = obsA s 2 x := by kernel_rfl
theorem prd2 (s : Nat -> Bool) (x : Int) : prdQ s 2 x = prdA s 2 x := by kernel_rfl
theorem obs3 (s : Nat -> Bool) (x : Int) : obsQ s 3 x = obsA s 3 x := by kernel_rfl
theorem prd3 (s : Nat -> Bool) (x : Int) : prdQ s 3 x = prdA s 3 x := by kernel_rfl
theorem obs4 (s : Nat -> Bool) (x : Int) : obsQ s 4 x = obsA s 4 x := by kernel_rfl
theorem prd4 (s : Nat -> Bool) (x : Int) : prdQ s 4 x = prdA s 4 x := by kernel_rfl
theorem obs5 (s : Nat -> Bool) (x : Int) : obsQ s 5 x = obsA s 5 x := by kernel_rfl
theorem prd5 (s : Nat -> Bool) (x : Int) : prdQ s 5 x = prdA s 5 x := by kernel_rfl
theorem obs6 (s : Nat -> Bool) (x : Int) : obsQ s 6 x = obsA s 6 x := by kernel_rfl
theorem prd6 (s : Nat -> Bool) (x : Int) : prdQ s 6 x = prdA s 6 x := by kernel_rfl
theorem obs7 (s : Nat -> Bool) (x : Int) : obsQ s 7 x = obsA s 7 x := by kernel_rfl
theorem prd7 (s : Nat -> Bool) (x : Int) : prdQ s 7 x = prdA s 7 x := by kernel_rfl
theorem obs8 (s : Nat -> Bool) (x : Int) : obsQ s 8 x = obsA s 8 x := by kernel_rfl
theorem prd8 (s : Nat -> Bool) (x : Int) : prdQ s 8 x = prdA s 8 x := by kernel_rfl
theorem obs9 (s : Nat -> Bool) (x : Int) : obsQ s 9 x = obsA s 9 x := by kernel_rfl
theorem prd9 (s : Nat -> Bool) (x : Int) : prdQ s 9 x = prdA s 9 x := by kernel_rfl
theorem obs10 (s : Nat -> Bool) (x : Int) : obsQ s 10 x = obsA s 10 x := by kernel_rfl
theorem prd10 (s : Nat -> Bool) (x : Int) : prdQ s 10 x = prdA s 10 x := by kernel_rfl
theorem obs11 (s : Nat -> Bool) (x : Int) : obsQ s 11 x = obsA s 11 x := by kernel_rfl
theorem prd11 (s : Nat -> Bool) (x : Int) : prdQ s 11 x = prdA s 11 x := by kernel_rfl
theorem obs12 (s : Nat -> Bool) (x : Int) : obsQ s 12 x = obsA s 12 x := by kernel_rfl
theorem prd12 (s : Nat -> Bool) (x : Int) : prdQ s 12 x = prdA s 12 x := by kernel_rfl
theorem obs13 (s : Nat -> Bool) (x : Int) : obsQ s 13 x = obsA s 13 x := by kernel_rfl
theorem prd13 (s : Nat -> Bool) (x : Int) : prdQ s 13 x = prdA s 13 x := by kernel_rfl
theorem obs14 (s : Nat -> Bool) (x : Int) : obsQ s 14 x = obsA s 14 x := by kernel_rfl
theorem prd14 (s : Nat -> Bool) (x : Int) : prdQ s 14 x = prdA s 14 x := by kernel_rfl
theorem obs15 (s : Nat -> Bool) (x : Int) : obsQ s 15 x = obsA s 15 x := by kernel_rfl
theorem prd15 (s : Nat -> Bool) (x : Int) : prdQ s 15 x = prdA s 15 x := by kernel_rfl
theorem obs16 (s : Nat -> Bool) (x : Int) : obsQ s 16 x = obsA s 16 x := by kernel_rfl
theorem prd16 (s : Nat -> Bool) (x : Int) : prdQ s 16 x = prdA s 16 x := by kernel_rfl
theorem obs17 (s : Nat -> Bool) (x : Int) : obsQ s 17 x = obsA s 17 x := by kernel_rfl
theorem prd17 (s : Nat -> Bool) (x : Int) : prdQ s 17 x = prdA s 17 x := by kernel_rfl
theorem obs18 (s : Nat -> Bool) (x : Int) : obsQ s 18 x = obsA s 18 x := by kernel_rfl
theorem prd18 (s : Nat -> Bool) (x : Int) : prdQ s 18 x = prdA s 18 x := by kernel_rfl
theorem obs19 (s : Nat -> Bool) (x : Int) : obsQ s 19 x = obsA s 19 x := by kernel_rfl
theorem prd19 (s : Nat -> Bool) (x : Int) : prdQ s 19 x = prdA s 19 x := by kernel_rfl
theorem obs20 (s : Nat -> Bool) (x : Int) : obsQ s 20 x = obsA s 20 x := by kernel_rfl
theorem prd20 (s : Nat -> Bool) (x : Int) : prdQ s 20 x = prdA s 20 x := by kernel_rfl
theorem obs21 (s : Nat -> Bool) (x : Int) : obsQ s 21 x = obsA s 21 x := by kernel_rfl
theorem prd21 (s : Nat -> Bool) (x : Int) : prdQ s 21 x = prdA s 21 x := by kernel_rfl
theorem obs22 (s : Nat -> Bool) (x : Int) : obsQ s 22 x = obsA s 22 x := by kernel_rfl
theorem prd22 (s : Nat -> Bool) (x : Int) : prdQ s 22 x = prdA s 22 x := by kernel_rfl
theorem obs23 (s : Nat -> Bool) (x : Int) : obsQ s 23 x = obsA s 23 x := by kernel_rfl
theorem prd23 (s : Nat -> Bool) (x : Int) : prdQ s 23 x = prdA s 23 x := by kernel_rfl
theorem obs24 (s : Nat -> Bool) (x : Int) : obsQ s 24 x = obsA s 24 x := by kernel_rfl
theorem prd24 (s : Nat -> Bool) (x : Int) : prdQ s 24 x = prdA s 24 x := by kernel_rfl
theorem obs25 (s : Nat -> Bool) (x : Int) : obsQ s 25 x = obsA s 25 x := by kernel_rfl
theorem prd25 (s : Nat -> Bool) (x : Int) : prdQ s 25 x = prdA s 25 x := by kernel_rfl
theorem obs26 (s : Nat -> Bool) (x : Int) : obsQ s 26 x = obsA s 26 x := by kernel_rfl
theorem prd26 (s : Nat -> Bool) (x : Int) : prdQ s 26 x = prdA s 26 x := by kernel_rfl
theorem obs27 (s : Nat -> Bool) (x : Int) : obsQ s 27 x = obsA s 27 x := by kernel_rfl
theorem prd27 (s : Nat -> Bool) (x : Int) : prdQ s 27 x = prdA s 27 x := by kernel_rfl
theorem obs28 (s : Nat -> Bool) (x : Int) : obsQ s 28 x = obsA s 28 x := by kernel_rfl
theorem prd28 (s : Nat -> Bool) (x : Int) : prdQ s 28 x = prdA s 28 x := by kernel_rfl
theorem obs29 (s : Nat -> Bool) (x : Int) : obsQ s 29 x = obsA s 29 x := by kernel_rfl
theorem prd29 (s : Nat -> Bool) (x : Int) : prdQ s 29 x = prdA s 29 x := by kernel_rfl
theorem obs30 (s : Nat -> Bool) (x : Int) : obsQ s 30 x = obsA s 30 x := by kernel_rfl
theorem prd30 (s : Nat -> Bool) (x : Int) : prdQ s 30 x = prdA s 30 x := by kernel_rfl
theorem obs31 (s : Nat -> Bool) (x : Int) : obsQ s 31 x = obsA s 31 x := by kernel_rfl
theorem prd31 (s : Nat -> Bool) (x : Int) : prdQ s 31 x = prdA s 31 x := by kernel_rfl
theorem obs_runs0 (s : Nat -> Bool) (x : Int) (r : Nat) (h : 0 <= r) (h' : r < 8) : obsQ s r x = obsA s r x := by
 have h : r = 0 ∨ r = 1 ∨ r = 2 ∨ r = 3 ∨ r = 4 ∨ r = 5 ∨ r = 6 ∨ r = 7 := by omega
 rcases h with h | h | h | h | h | h | h | h
 ·rw [h]; exact obs0 s x
 ·rw [h]; exact obs1 s x
 ·rw [h]; exact obs2 s x
 ·rw [h]; exact obs3 s x
 ·rw [h]; exact obs4 s x
 ·rw [h]; exact obs5 s x
 ·rw [h]; exact obs6 s x
 ·rw [h]; exact obs7 s x
theorem obs_runs1 (s : Nat -> Bool) (x : Int) (r : Nat) (h : 8 <= r) (h' : r < 16) : obsQ s r x = obsA s r x := by
 have h : r = 8 ∨ r = 9 ∨ r = 10 ∨ r = 11 ∨ r = 12 ∨ r = 13 ∨ r = 14 ∨ r = 15 := by omega
 rcases h with h | h | h | h | h | h | h | h
 ·rw [h]; exact obs8 s x
 ·rw [h]; exact obs9 s x
 ·rw [h]; exact obs10 s x
 ·rw [h]; exact obs11 s x
 ·rw [h]; exact obs12 s x
 ·rw [h]; exact obs13 s x
 ·rw [h]; exact obs14 s x
 ·rw [h]; exact obs15 s x
theorem obs_runs2 (s : Nat -> Bool) (x : Int) (r : Nat) (h : 16 <= r) (h' : r < 24) : obsQ s r x = obsA s r x := by
 have h : r = 16 ∨ r = 17 ∨ r = 18 ∨ r = 19 ∨ r = 20 ∨ r = 21 ∨ r = 22 ∨ r = 23 := by omega
 rcases h with h | h | h | h | h | h | h | h
 ·rw [h]; exact obs16 s x
 ·rw [h]; exact obs17 s x
 ·rw [h]; exact obs18 s x
 ·rw [h]; exact obs19 s x
 ·rw [h]; exact obs20 s x
 ·rw [h]; exact obs21 s x
 ·rw [h]; exact obs22 s x
 ·rw [h]; exact obs23 s x
theorem obs_runs3 (s : Nat -> Bool) (x : Int) (r : Nat) (h : 24 <= r) (h' : r < 32) : obsQ s r x = obsA s r x := by
 have h : r = 24 ∨ r = 25 ∨ r = 26 ∨ r = 27 ∨ r = 28 ∨ r = 29 ∨ r = 30 ∨ r = 31 := by omega
 rcases h with h | h | h | h | h | h | h | h
 ·rw [h]; exact obs24 s x
 ·rw [h]; exact obs25 s x
 ·rw [h]; exact obs26 s x
 ·rw [h]; exact obs27 s x
 ·rw [h]; exact obs28 s x
 ·rw [h]; exact obs29 s x
 ·rw [h]; exact obs30 s x
 ·rw [h]; exact obs31 s x
theorem obs_runs (s : Nat -> Bool) (x : Int) (r : Nat) (h : r < 32) : obsQ s r x = obsA s r x := by
 by_cases h1 : r < 8
 ·exact obs_runs0 s x r (by omega) h1
 by_cases h2 : r < 16
 ·exact obs_runs1 s x r (by omega) h2
 by_cases h3 : r < 24
 ·exact obs_runs2 s x r (by omega) h3
 ·exact obs_runs3 s x r (by omega) h
theorem prd_runs0 (s : Nat -> Bool) (x : Int) (r : Nat) (h : 0 <= r) (h' : r < 8) : prdQ s r x = prdA s r x := by
 have h : r = 0 ∨ r = 1 ∨ r = 2 ∨ r = 3 ∨ r = 4 ∨ r = 5 ∨ r = 6 ∨ r = 7 := by omega
 rcases h with h | h | h | h | h | h | h | h
 ·rw [h]; exact prd0 s x
 ·rw [h]; exact prd1 s x
 ·rw [h]; exact prd2 s x
 ·rw [h]; exact prd3 s x
 ·rw [h]; exact prd4 s x
 ·rw [h]; exact prd5 s x
 ·rw [h]; exact prd6 s x
 ·rw [h]; exact prd7 s x
theorem prd_runs1 (s : Nat -> Bool) (x : Int) (r : Nat) (h : 8 <= r) (h' : r < 16) : prdQ s r x = prdA s r x := by
 have h : r = 8 ∨ r = 9 ∨ r = 10 ∨ r = 11 ∨ r = 12 ∨ r = 13 ∨ r = 14 ∨ r = 15 := by omega
 rcases h with h | h | h | h | h | h | h | h
 ·rw [h]; exact prd8 s x
 ·rw [h]; exact prd9 s x
 ·rw [h]; exact prd10 s x
 ·rw [h]; exact prd11 s x
 ·rw [h]; exact prd12 s x
 ·rw [h]; exact prd13 s x
 ·rw [h]; exact prd14 s x
 ·rw [h]; exact prd15 s x
theorem prd_runs2 (s : Nat -> Bool) (x : Int) (r : Nat) (h : 16 <= r) (h' : r < 24) : prdQ s r x = prdA s r x := by
 have h : r = 16 ∨ r = 17 ∨ r = 18 ∨ r = 19 ∨ r = 20 ∨ r = 21 ∨ r = 22 ∨ r = 23 := by omega
 rcases h with h | h | h | h | h | h | h | h
 ·rw [h]; exact prd16 s x
 ·rw [h]; exact prd17 s x
 ·rw [h]; exact prd18 s x
 ·rw [h]; exact prd19 s x
 ·rw [h]; exact prd20 s x
 ·rw [h]; exact prd21 s x
 ·rw [h]; exact prd22 s x
 ·rw [h]; exact prd23 s x
theorem prd_runs3 (s : Nat -> Bool) (x : Int) (r : Nat) (h : 24 <= r) (h' : r < 32) : prdQ s r x = prdA s r x := by
 have h : r = 24 ∨ r = 25 ∨ r = 26 ∨ r = 27 ∨ r = 28 ∨ r = 29 ∨ r = 30 ∨ r = 31 := by omega
 rcases h with h | h | h | h | h | h | h | h
 ·rw [h]; exact prd24 s x
 ·rw [h]; exact prd25 s x
 ·rw [h]; exact prd26 s x
 ·rw [h]; exact prd27 s x
 ·rw [h]; exact prd28 s x
 ·rw [h]; exact prd29 s x
 ·rw [h]; exact prd30 s x
 ·rw [h]; exact prd31 s x
theorem prd_runs (s : Nat -> Bool) (x : Int) (r : Nat) (h : r < 32) : prdQ s r x = prdA s r x := by
 by_cases h1 : r < 8
 ·exact prd_runs0 s x r (by omega) h1
 by_cases h2 : r < 16
 ·exact prd_runs1 s x r (by omega) h2
 by_cases h3 : r < 24
 ·exact prd_runs2 s x r (by omega) h3
 ·exact prd_runs3 s x r (by omega) h
theorem obs_gd (s : Nat -> Bool) (x : Int) (r : Nat) (h : r < 32) : CallGd Tryz.prog 74 [.ptr 0 0, .tt] [.fix 299 (chanR s r x)] (.tup []) [.fix 299 (chanS s r x)] := by
 have hq := obs_runs s x r h
 unfold obsQ at hq
 have h9 : obsA s r x := ⟨rfl, rfl⟩
 obtain ⟨v, H', wc, ⟨e1, e2⟩, _, _, hc⟩ := run_eq env_ok fuel hq h9
 subst e1; subst e2
 rw [hw1_view, hw1_view] at hc
 exact hc
theorem prd_gd (s : Nat -> Bool) (x : Int) (r : Nat) (h : r < 32) : CallGd Tryz.prog 144 [.ptr 0 0] [.fix 299 (chanR s r x)] .tt [.fix 299 (chanR s r x)] := by
 have hq := prd_runs s x r h
 unfold prdQ at hq
 have h9 : prdA s r x := ⟨rfl, rfl⟩
 obtain ⟨v, H', wc, ⟨e1, e2⟩, _, _, hc⟩ := run_eq env_ok fuel hq h9
 subst e1; subst e2
 rw [hw1_view] at hc
 exact hc
end Go.Proofs.YtbppedokdfmnoaaGreatDoor

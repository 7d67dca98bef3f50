/- Part of the executor and its soundness, or of what it is told of this seat's program. No statement of the seat is proved here. -/
import Derived.Test.YtbppedokdfmnoaaGreatDoorRs1
import Derived.Test.YtbppedokdfmnoaaGreatDoorRz1
import Derived.Test.YtbppedokdfmnoaaGreatDoorSx4
import Derived.Test.YtbppedokdfmnoaaGreatDoorRp1
set_option linter.unusedSimpArgs false
set_option linter.unusedVariables false
namespace Go.Proofs.YtbppedokdfmnoaaGreatDoor
open Go.Sx
theorem hS1_view (d : Dr) (N n L M B A : Int) (ck : Nat) (pk lf od lg : List (List SV)) : (hS1 d N n L M B A ck pk lf od lg).view = bS1 d N n L M B A ck pk lf od lg := by kernel_rfl
theorem hT1_view (d : Dr) (N n L M B A : Int) (ck : Nat) (pk lf od lg : List (List SV)) : (hT1 d N n L M B A ck pk lf od lg).view = bT1 d N n L M B A ck pk lf od lg := by kernel_rfl
theorem hZ1_view (d : Dr) (pk lf od : List (List SV)) : (hZ1 d pk lf od).view = bZ1 d pk lf od := by kernel_rfl
theorem fr1 (N : Int) : viewF 103 (fS1 N) = mkFr 103 ([4, 5, 9].zip [.ptr 37 0, .ptr 36 0, .bs .i64 N 0 1 371]) := by kernel_rfl
theorem frZ1 : viewF 103 fZ1 = mkFr 103 ([4, 5, 9].zip [.ptr 37 0, .ptr 36 0, .bs .i64 372 0 372 372]) := by kernel_rfl
theorem round1_go {ls : List Int} {d : Dr} (hV : EnvOK Tryz.prog (envR ls 1 d)) {K : Post} {j : Nat} (N n L M B A : Int) (ck : Nat) (pk lf od lg : List (List SV))
  (hk : BRounds Tryz.prog gH.view lawLoop j (mkFr 103 ([4, 5, 9].zip (sT1 N))) (bT1 d N n L M B A ck pk lf od lg) K) : BRounds Tryz.prog gH.view lawLoop (j + 1) (viewF 103 (fS1 N)) (bS1 d N n L M B A ck pk lf od lg) K := by
 have hq := round1 ls d N n L M B A ck pk lf od lg
 unfold roundQ1 at hq
 have h9 := roundA1_true d N n L M B A ck pk lf od lg
 rw [<- hT1_view] at hk
 rw [<- hS1_view]
 refine BRounds.run hV hq h9 (by decide) (by rw [gH_view]; rfl) (by rw [hS1_view, bS1]; exact Nat.le_add_left 1 _) (fun i hi => ?_) hk
 have : i = 0 := by omega
 subst this
 rw [hS1_view, gH_view, bS1]
 rfl
theorem chain1 {ls : List Int} {d : Dr} (hV : EnvOK Tryz.prog (envR ls 1 d)) {K : Post}
  (hlast : ∀ pk lf od : List (List SV), (pk.length : Int) = 371 -> (lf.length : Int) = 371 -> (od.length : Int) = 370 -> BRounds Tryz.prog gH.view lawLoop 1 (mkFr 103 ([4, 5, 9].zip (sT1 371))) (bT1 d 371 370 1486 1095217643520 1519616 2063502 371 pk lf od (logN 370)) K) :
  ∀ (j k : Nat), k + j = 370 -> ∀ (N n L M B A : Int) (ck : Nat) (pk lf od : List (List SV)), N = (k : Int) + 1 -> n = k -> L = 4 * N + 2 -> M = 2952069120 * N -> B = 4096 * N -> A = 5562 * N -> ck = k + 1 -> (pk.length : Int) = N -> (lf.length : Int) = N -> (od.length : Int) = n ->
   BRounds Tryz.prog gH.view lawLoop (j + 2) (viewF 103 (fS1 N)) (bS1 d N n L M B A ck pk lf od (logN k)) K := by
 intro j
 induction j with
 | zero =>
  intro k hk N n L M B A ck pk lf od hN hn hL hM hB hA hc h1 h2 h3
  have e0 : k = 370 := by omega
  subst e0
  have e1 : N = 371 := by omega
  have e2 : n = 370 := by omega
  subst e1; subst e2
  have e3 : L = 1486 := by omega
  have e4 : M = 1095217643520 := by omega
  have e5 : B = 1519616 := by omega
  have e6 : A = 2063502 := by omega
  have e7 : ck = 371 := by omega
  subst e3; subst e4; subst e5; subst e6; subst e7
  exact round1_go hV _ _ _ _ _ _ _ _ _ _ _ (hlast pk lf od h1 h2 h3)
 | succ j ih =>
  intro k hk N n L M B A ck pk lf od hN hn hL hM hB hA hc h1 h2 h3
  refine round1_go hV _ _ _ _ _ _ _ _ _ _ _ ?_
  have hg : ((logN k).length : Int) = L := by rw [logN_len]; omega
  have hw := weak1 d N n L M B A ck pk lf od (logN k) (by omega) (by omega) (by omega) hL hM hB hA h1 h2 h3 hg
  have e : logN k ++ [[.int .i64 (N), .int .i64 1, .int .i64 0, .int .i64 (N + 2), .int .i64 0, .int .i64 4096], [.int .i64 (N), .int .i64 5, .int .i64 0, .int .i64 0, .int .i64 1, .int .i64 0], [.int .i64 (N), .int .i64 3, .int .i64 0, .int .i64 (N + 1), .int .i64 0, .int .i64 1], [.int .i64 (N), .int .i64 4, .int .i64 0, .int .i64 (N + 1), .int .i64 0, .int .i64 0]] = logN (k + 1) := by
   rw [logN_succ, hN]; rfl
  rw [e] at hw
  refine BRounds.goes (Goes.weak ?_ hw) (ih (k + 1) (by omega) _ _ _ _ _ _ _ _ _ _ (by omega) (by omega) (by omega) (by omega) (by omega) (by omega) (by omega) (by simp; omega) (by simp; omega) (by simp; omega))
  rw [fr1]
  exact SWs.mkFr 103 [4, 5, 9] (.cons .refl (.cons .refl (.cons (.bs (by omega) (by omega) (by omega)) .nil)))
theorem finish1 {d : Dr} (hZ : EnvOK Tryz.prog (envZ 1 d)) (pk lf od : List (List SV)) (h1 : (pk.length : Int) = 371) (h2 : (lf.length : Int) = 371) (h3 : (od.length : Int) = 370) :
  BRounds Tryz.prog gH.view lawLoop 1 (mkFr 103 ([4, 5, 9].zip (sT1 371))) (bT1 d 371 370 1486 1095217643520 1519616 2063502 371 pk lf od (logN 370)) fun x F h => x = .ret /\ F[2]? = some .tt /\ h[0]? = some (.glob 0 457 pow10) := by
 refine BRounds.goes (Goes.weak (F' := viewF 103 fZ1) ?_ (end1 d pk lf od h1 h2 h3)) ?_
 ·rw [frZ1]
  exact SWs.mkFr 103 [4, 5, 9] (.cons .refl (.cons .refl (.cons (.bs (by decide) (by decide) (by decide)) .nil)))
 ·generalize hpk : pk ++ _ = pk'
  generalize hlf : lf ++ _ = lf'
  generalize hod : od ++ _ = od'
  have hq := last1 d pk' lf' od'
  unfold lastQ1 at hq
  have h9 := lastA1_true d
  rw [<- hZ1_view]
  obtain ⟨x, F', H', wr, ⟨e1, e2, hg⟩, hc, hM⟩ := code_run hZ hq h9 (by rw [hZ1_view, bZ1]; exact Nat.le_add_left 1 _)
  subst e1; subst e2
  rw [getF_eq] at hg
  obtain ⟨s, hs, e3⟩ := nthK_sound hg
  subst e3
  refine BRounds.step ((BOK.of (by rw [gH_view]; simp) hc).mono fun y F1 h1 e => ?_)
  obtain ⟨e1, e2, e3⟩ := e
  subst e1; subst e2; subst e3
  refine ⟨rfl, hs, ?_⟩
  rw [hM.same 0 (by decide) (by simp), hZ1_view, bZ1]
  rfl
end Go.Proofs.YtbppedokdfmnoaaGreatDoor

namespace Go.Proofs.YtbppedokdfmnoaaGreatDoor
open Go.Sx
theorem hP10_view (d : Dr) : (hP10 d).view = bP10 d := by kernel_rfl
theorem hP11_view (d : Dr) : (hP11 d).view = bP11 d := by kernel_rfl
theorem frP1 : viewF 103 fP10 = mkFr 103 ([4, 5, 9].zip sP10) := by kernel_rfl
theorem law_bok1 {ls : List Int} {d : Dr} (hQ : EnvOK Tryz.prog (envQ ls 1 d)) (hR : EnvOK Tryz.prog (envR ls 1 d)) (hZ : EnvOK Tryz.prog (envZ 1 d)) (hd : d.an < d.ad) :
  BOK Tryz.prog gH.view (bodyOf Tryz.f3) (viewF 103 (fE ls)) gH.view fun x F h => x = .ret /\ F[2]? = some .tt /\ h[0]? = some (.glob 0 457 pow10) := by
 have hb : bodyOf Tryz.f3 = lawPre.foldr Code.seq lawRest := (heads_tail 9 _).symm
 rw [hb, lawRest_eq]
 have hq := pre1 ls d
 unfold preQ1 at hq
 have h9 : preA1 ls d := ⟨⟨rfl, rfl⟩, ⟨rfl, rfl⟩, hd, hd, rfl, rfl, rfl, rfl⟩
 refine begin_sound hQ hq h9 (by decide) (by rw [gH_view]; rfl) (k := 373) ?_
 have hz := zero1 ls d
 unfold zeroQ1 at hz
 have h8 : zeroA1 d := ⟨rfl, rfl, rfl⟩
 rw [<- frP1]
 refine BRounds.run hQ hz h8 (by decide) (by rw [gH_view]; rfl) (by rw [hP10_view, bP10]; exact Nat.le_add_left 1 _) (fun i hi => ?_) ?_
 ·have : i = 0 := by omega
  subst this
  rw [hP10_view, gH_view, bP10]
  rfl
 ·rw [hP11_view]
  have e : logN 0 = lg0 := by simp [logN, logR]
  have hf := first1 d
  rw [<- e] at hf
  refine BRounds.goes (Goes.weak (F' := viewF 103 (fS1 1)) ?_ hf) ?_
  ·rw [fr1]
   exact SWs.mkFr 103 [4, 5, 9] (.cons .refl (.cons .refl (.cons (.intB (by decide) (by decide) (by decide)) .nil)))
  ·exact chain1 hR (finish1 hZ) 370 0 rfl 1 0 6 2952069120 4096 5562 1 pk0 lf0 od0 (by decide) (by decide) (by decide) (by decide) (by decide) (by decide) (by decide) (by rfl) (by rfl) (by rfl)
end Go.Proofs.YtbppedokdfmnoaaGreatDoor

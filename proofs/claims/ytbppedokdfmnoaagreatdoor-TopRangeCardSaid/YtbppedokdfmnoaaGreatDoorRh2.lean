/- Part of the executor and its soundness, or of what it is told of this seat's program. No statement of the seat is proved here. -/
import Derived.Test.YtbppedokdfmnoaaGreatDoorRs2
import Derived.Test.YtbppedokdfmnoaaGreatDoorRz2
import Derived.Test.YtbppedokdfmnoaaGreatDoorSx4
import Derived.Test.YtbppedokdfmnoaaGreatDoorRp2
set_option linter.unusedSimpArgs false
set_option linter.unusedVariables false
namespace Go.Proofs.YtbppedokdfmnoaaGreatDoor
open Go.Sx
theorem hS2_view (d : Dr) (N n L M B A : Int) (ck : Nat) (pk lf od lg : List (List SV)) : (hS2 d N n L M B A ck pk lf od lg).view = bS2 d N n L M B A ck pk lf od lg := by kernel_rfl
theorem hT2_view (d : Dr) (N n L M B A : Int) (ck : Nat) (pk lf od lg : List (List SV)) : (hT2 d N n L M B A ck pk lf od lg).view = bT2 d N n L M B A ck pk lf od lg := by kernel_rfl
theorem hZ2_view (d : Dr) (pk lf od : List (List SV)) : (hZ2 d pk lf od).view = bZ2 d pk lf od := by kernel_rfl
theorem fr2 (N : Int) : viewF 103 (fS2 N) = mkFr 103 ([4, 5, 9].zip [.ptr 29 0, .ptr 28 0, .bs .i64 N 0 1 371]) := by kernel_rfl
theorem frZ2 : viewF 103 fZ2 = mkFr 103 ([4, 5, 9].zip [.ptr 29 0, .ptr 28 0, .bs .i64 372 0 372 372]) := by kernel_rfl
theorem round2_go {ls : List Int} {d : Dr} (hV : EnvOK Tryz.prog (envR ls 2 d)) {K : Post} {j : Nat} (N n L M B A : Int) (ck : Nat) (pk lf od lg : List (List SV))
  (hk : BRounds Tryz.prog gH.view lawLoop j (mkFr 103 ([4, 5, 9].zip (sT2 N))) (bT2 d N n L M B A ck pk lf od lg) K) : BRounds Tryz.prog gH.view lawLoop (j + 1) (viewF 103 (fS2 N)) (bS2 d N n L M B A ck pk lf od lg) K := by
 have hq := round2 ls d N n L M B A ck pk lf od lg
 unfold roundQ2 at hq
 have h9 := roundA2_true d N n L M B A ck pk lf od lg
 rw [<- hT2_view] at hk
 rw [<- hS2_view]
 refine BRounds.run hV hq h9 (by decide) (by rw [gH_view]; rfl) (by rw [hS2_view, bS2]; exact Nat.le_add_left 1 _) (fun i hi => ?_) hk
 have : i = 0 := by omega
 subst this
 rw [hS2_view, gH_view, bS2]
 rfl
theorem chain2 {ls : List Int} {d : Dr} (hV : EnvOK Tryz.prog (envR ls 2 d)) {K : Post}
  (hlast : ∀ pk lf od : List (List SV), (pk.length : Int) = 371 -> (lf.length : Int) = 371 -> (od.length : Int) = 370 -> BRounds Tryz.prog gH.view lawLoop 1 (mkFr 103 ([4, 5, 9].zip (sT2 371))) (bT2 d 371 370 1486 1095217643520 1519616 2063502 371 pk lf od (logN 370)) K) :
  ∀ (j k : Nat), k + j = 370 -> ∀ (N n L M B A : Int) (ck : Nat) (pk lf od : List (List SV)), N = (k : Int) + 1 -> n = k -> L = 4 * N + 2 -> M = 2952069120 * N -> B = 4096 * N -> A = 5562 * N -> ck = k + 1 -> (pk.length : Int) = N -> (lf.length : Int) = N -> (od.length : Int) = n ->
   BRounds Tryz.prog gH.view lawLoop (j + 2) (viewF 103 (fS2 N)) (bS2 d N n L M B A ck pk lf od (logN k)) K := by
 intro j
 induction j with
 | zero =>
  intro k hk N n L M B A ck pk lf od hN hn hL hM hB hA hc h1 h2 h3
  have e0 : k = 370 := by omega
  subst e0
  have e1 : N = 371 := by omega
  have e2 : n = 370 := by omega
  subst e1; subst e2
  have e3 : L = 1486 := by omega
  have e4 : M = 1095217643520 := by omega
  have e5 : B = 1519616 := by omega
  have e6 : A = 2063502 := by omega
  have e7 : ck = 371 := by omega
  subst e3; subst e4; subst e5; subst e6; subst e7
  exact round2_go hV _ _ _ _ _ _ _ _ _ _ _ (hlast pk lf od h1 h2 h3)
 | succ j ih =>
  intro k hk N n L M B A ck pk lf od hN hn hL hM hB hA hc h1 h2 h3
  refine round2_go hV _ _ _ _ _ _ _ _ _ _ _ ?_
  have hg : ((logN k).length : Int) = L := by rw [logN_len]; omega
  have hw := weak2 d N n L M B A ck pk lf od (logN k) (by omega) (by omega) (by omega) hL hM hB hA h1 h2 h3 hg
  have e : logN k ++ [[.int .i64 (N), .int .i64 1, .int .i64 0, .int .i64 (N + 2), .int .i64 0, .int .i64 4096], [.int .i64 (N), .int .i64 5, .int .i64 0, .int .i64 0, .int .i64 1, .int .i64 0], [.int .i64 (N), .int .i64 3, .int .i64 0, .int .i64 (N + 1), .int .i64 0, .int .i64 1], [.int .i64 (N), .int .i64 4, .int .i64 0, .int .i64 (N + 1), .int .i64 0, .int .i64 0]] = logN (k + 1) := by
   rw [logN_succ, hN]; rfl
  rw [e] at hw
  refine BRounds.goes (Goes.weak ?_ hw) (ih (k + 1) (by omega) _ _ _ _ _ _ _ _ _ _ (by omega) (by omega) (by omega) (by omega) (by omega) (by omega) (by omega) (by simp; omega) (by simp; omega) (by simp; omega))
  rw [fr2]
  exact SWs.mkFr 103 [4, 5, 9] (.cons .refl (.cons .refl (.cons (.bs (by omega) (by omega) (by omega)) .nil)))
theorem finish2 {d : Dr} (hZ : EnvOK Tryz.prog (envZ 2 d)) (pk lf od : List (List SV)) (h1 : (pk.length : Int) = 371) (h2 : (lf.length : Int) = 371) (h3 : (od.length : Int) = 370) :
  BRounds Tryz.prog gH.view lawLoop 1 (mkFr 103 ([4, 5, 9].zip (sT2 371))) (bT2 d 371 370 1486 1095217643520 1519616 2063502 371 pk lf od (logN 370)) fun x F h => x = .ret /\ F[2]? = some .tt /\ h[0]? = some (.glob 0 457 pow10) := by
 refine BRounds.goes (Goes.weak (F' := viewF 103 fZ2) ?_ (end2 d pk lf od h1 h2 h3)) ?_
 ·rw [frZ2]
  exact SWs.mkFr 103 [4, 5, 9] (.cons .refl (.cons .refl (.cons (.bs (by decide) (by decide) (by decide)) .nil)))
 ·generalize hpk : pk ++ _ = pk'
  generalize hlf : lf ++ _ = lf'
  generalize hod : od ++ _ = od'
  have hq := last2 d pk' lf' od'
  unfold lastQ2 at hq
  have h9 := lastA2_true d
  rw [<- hZ2_view]
  obtain ⟨x, F', H', wr, ⟨e1, e2, hg⟩, hc, hM⟩ := code_run hZ hq h9 (by rw [hZ2_view, bZ2]; exact Nat.le_add_left 1 _)
  subst e1; subst e2
  rw [getF_eq] at hg
  obtain ⟨s, hs, e3⟩ := nthK_sound hg
  subst e3
  refine BRounds.step ((BOK.of (by rw [gH_view]; simp) hc).mono fun y F1 h1 e => ?_)
  obtain ⟨e1, e2, e3⟩ := e
  subst e1; subst e2; subst e3
  refine ⟨rfl, hs, ?_⟩
  rw [hM.same 0 (by decide) (by simp), hZ2_view, bZ2]
  rfl
end Go.Proofs.YtbppedokdfmnoaaGreatDoor

namespace Go.Proofs.YtbppedokdfmnoaaGreatDoor
open Go.Sx
theorem hP20_view (d : Dr) : (hP20 d).view = bP20 d := by kernel_rfl
theorem hP21_view (d : Dr) : (hP21 d).view = bP21 d := by kernel_rfl
theorem frP2 : viewF 103 fP20 = mkFr 103 ([4, 5, 9].zip sP20) := by kernel_rfl
theorem law_bok2 {ls : List Int} {d : Dr} (hQ : EnvOK Tryz.prog (envQ ls 2 d)) (hR : EnvOK Tryz.prog (envR ls 2 d)) (hZ : EnvOK Tryz.prog (envZ 2 d)) (hd : d.an < d.ad) :
  BOK Tryz.prog gH.view (bodyOf Tryz.f3) (viewF 103 (fE ls)) gH.view fun x F h => x = .ret /\ F[2]? = some .tt /\ h[0]? = some (.glob 0 457 pow10) := by
 have hb : bodyOf Tryz.f3 = lawPre.foldr Code.seq lawRest := (heads_tail 9 _).symm
 rw [hb, lawRest_eq]
 have hq := pre2 ls d
 unfold preQ2 at hq
 have h9 : preA2 ls d := ⟨⟨rfl, rfl⟩, ⟨rfl, rfl⟩, hd, rfl, rfl, rfl, rfl⟩
 refine begin_sound hQ hq h9 (by decide) (by rw [gH_view]; rfl) (k := 373) ?_
 have hz := zero2 ls d
 unfold zeroQ2 at hz
 have h8 : zeroA2 d := ⟨rfl, rfl, rfl⟩
 rw [<- frP2]
 refine BRounds.run hQ hz h8 (by decide) (by rw [gH_view]; rfl) (by rw [hP20_view, bP20]; exact Nat.le_add_left 1 _) (fun i hi => ?_) ?_
 ·have : i = 0 := by omega
  subst this
  rw [hP20_view, gH_view, bP20]
  rfl
 ·rw [hP21_view]
  have e : logN 0 = lg0 := by simp [logN, logR]
  have hf := first2 d
  rw [<- e] at hf
  refine BRounds.goes (Goes.weak (F' := viewF 103 (fS2 1)) ?_ hf) ?_
  ·rw [fr2]
   exact SWs.mkFr 103 [4, 5, 9] (.cons .refl (.cons .refl (.cons (.intB (by decide) (by decide) (by decide)) .nil)))
  ·exact chain2 hR (finish2 hZ) 370 0 rfl 1 0 6 2952069120 4096 5562 1 pk0 lf0 od0 (by decide) (by decide) (by decide) (by decide) (by decide) (by decide) (by decide) (by rfl) (by rfl) (by rfl)
end Go.Proofs.YtbppedokdfmnoaaGreatDoor

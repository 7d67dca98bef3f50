/- Part of the executor and its soundness, or of what it is told of this seat's program. No statement of the seat is proved here. -/
import Derived.Test.YtbppedokdfmnoaaGreatDoorAuP
import Derived.Test.YtbppedokdfmnoaaGreatDoorRe
set_option linter.unusedSimpArgs false
set_option linter.unusedVariables false
namespace Go.Proofs.YtbppedokdfmnoaaGreatDoor
open Go.Sx
set_option maxRecDepth 100000 in
theorem firstAL1 (d : Dr) : HWk (bPL1 d) (bSL rowZ d 1 0 6 4096 [[.int .i64 0, .int .i64 4096, .int .i64 3, .int .i64 0]] [] (kmap (.int .i64 0) 1 1) (kmap (.int .i64 1) 1 1)) := by
 unfold bPL1 bSL
 refine .cons .refl ?_
 refine .cons (by exact BW.mapG (by rw [kmap_one]; exact .cons (.intB (by decide) (by decide) (by decide)) .refl .nil)) ?_
 refine .cons (by exact BW.mapG (by rw [kmap_one]; exact .cons (.intB (by decide) (by decide) (by decide)) .refl (.cons (.intB (by decide) (by decide) (by decide)) .refl .nil))) ?_
 refine .cons (by exact BW.rowGap (.cons (.cons (.intB (by decide) (by decide) (by decide)) .nil) .nil) (by decide) (by decide) rfl) ?_
 refine .cons (by exact BW.rowGap .refl (by decide) (by decide) rfl) ?_
 refine .cons (by exact BW.fix (.cons .refl (.cons .refl (.cons (.intB (by decide) (by decide) (by decide)) (.cons (.intB (by decide) (by decide) (by decide)) (.cons .refl (.cons (.intB (by decide) (by decide) (by decide)) .refl))))))) ?_
 refine .cons (by exact BW.fix (.cons .refl (.cons .refl (.cons (.intB (by decide) (by decide) (by decide)) .refl)))) ?_
 exact .nil
theorem aFL1_view (m : Int) (d : Dr) : startW [cfgV m d, .sl 0] 55 (fun F => F = aF m d) = (aF m d = aF m d) := by kernel_rfl
theorem bodyL1 (hA : EnvOK Tryz.prog envA) (d : Dr) (hd : d.an < d.ad) : BOK Tryz.prog [rowZ] (bodyOf Tryz.f27) (viewF 55 (aF 1 d)) [rowZ] fun x F h => x = .ret /\ F = (mkFr 55 ([4, 5].zip [.int .i64 (-1), .int .i64 0])) /\ h = [rowZ] := by
 have hb : bodyOf Tryz.f27 = livPre.foldr Code.seq livRest := (heads_tail 3 _).symm
 rw [hb, livRest_eq]
 have hq := preL1 d
 unfold preQL1 at hq
 have h9 : preAL1 d := ⟨hd, rfl, rfl, rfl, rfl⟩
 have key := begin_sound2 (K := fun x F h => x = .ret /\ F = (mkFr 55 ([4, 5].zip [.int .i64 (-1), .int .i64 0])) /\ h = [rowZ]) (k := 2 + 4 * (370 + 1)) (id := 0) (endc := livEnd) hA hq h9 (by decide) (by rw [gZ_view]; rfl) ?_
 ·rw [gZ_view] at key
  exact key
 ·rw [gZ_view, hPL1_view]
  refine BRounds.goes (Goes.weak (F' := mkFr 55 ([7, 23, 24, 25].zip (sSL 6))) (SWs.mkFr _ _ (.cons .refl (.cons .refl (.cons .refl (.cons (.intB (by decide) (by decide) (by decide)) .nil))))) (firstAL1 d)) ?_
  exact chainL hA d (fun lf od _ _ => finL hA d lf od) 370 1 rfl 1 0 6 4096 _ _ rfl (by decide) (by decide) (by decide) (by decide) rfl rfl
theorem specL1 (hA : EnvOK Tryz.prog envA) (d : Dr) (hd : d.an < d.ad) : OSpec Tryz.prog 27 [cfgV 1 d, .sl 0] [rowZ] fun s ho => s = .tup [.int .i64 (-1), .int .i64 0] /\ ho = [rowZ] := by
 have hnt : Tryz.f27.ntmps = 55 := by kernel_rfl
 have hb : Tryz.f27.body = some (bodyOf Tryz.f27) := by kernel_rfl
 have hr' : Tryz.f27.results.toList = [.tmp 4, .tmp 5] := by kernel_rfl
 have hnm : (Tryz.f27.name == "runtime.NumGoroutine") = false := by kernel_rfl
 exact OSpec.of_bok2 Tryz.func27 hnm hb hnt hr' (Eq.mpr (aFL1_view 1 d) (Eq.refl _)) row_free res_free (by rfl) (by rfl) (bodyL1 hA d hd)
set_option maxRecDepth 100000 in
theorem firstAL2 (d : Dr) : HWk (bPL2 d) (bSL rowZ d 1 0 6 4096 [[.int .i64 0, .int .i64 4096, .int .i64 3, .int .i64 0]] [] (kmap (.int .i64 0) 1 1) (kmap (.int .i64 1) 1 1)) := by
 unfold bPL2 bSL
 refine .cons .refl ?_
 refine .cons (by exact BW.mapG (by rw [kmap_one]; exact .cons (.intB (by decide) (by decide) (by decide)) .refl .nil)) ?_
 refine .cons (by exact BW.mapG (by rw [kmap_one]; exact .cons (.intB (by decide) (by decide) (by decide)) .refl (.cons (.intB (by decide) (by decide) (by decide)) .refl .nil))) ?_
 refine .cons (by exact BW.rowGap (.cons (.cons (.intB (by decide) (by decide) (by decide)) .nil) .nil) (by decide) (by decide) rfl) ?_
 refine .cons (by exact BW.rowGap .refl (by decide) (by decide) rfl) ?_
 refine .cons (by exact BW.fix (.cons .refl (.cons .refl (.cons (.intB (by decide) (by decide) (by decide)) (.cons (.intB (by decide) (by decide) (by decide)) (.cons .refl (.cons (.intB (by decide) (by decide) (by decide)) .refl))))))) ?_
 refine .cons (by exact BW.fix (.cons .refl (.cons .refl (.cons (.intB (by decide) (by decide) (by decide)) .refl)))) ?_
 exact .nil
theorem aFL2_view (m : Int) (d : Dr) : startW [cfgV m d, .sl 0] 55 (fun F => F = aF m d) = (aF m d = aF m d) := by kernel_rfl
theorem bodyL2 (hA : EnvOK Tryz.prog envA) (d : Dr) (hd : d.an < d.ad) : BOK Tryz.prog [rowZ] (bodyOf Tryz.f27) (viewF 55 (aF 2 d)) [rowZ] fun x F h => x = .ret /\ F = (mkFr 55 ([4, 5].zip [.int .i64 (-1), .int .i64 0])) /\ h = [rowZ] := by
 have hb : bodyOf Tryz.f27 = livPre.foldr Code.seq livRest := (heads_tail 3 _).symm
 rw [hb, livRest_eq]
 have hq := preL2 d
 unfold preQL2 at hq
 have h9 : preAL2 d := ⟨hd, rfl, rfl, rfl, rfl⟩
 have key := begin_sound2 (K := fun x F h => x = .ret /\ F = (mkFr 55 ([4, 5].zip [.int .i64 (-1), .int .i64 0])) /\ h = [rowZ]) (k := 2 + 4 * (370 + 1)) (id := 0) (endc := livEnd) hA hq h9 (by decide) (by rw [gZ_view]; rfl) ?_
 ·rw [gZ_view] at key
  exact key
 ·rw [gZ_view, hPL2_view]
  refine BRounds.goes (Goes.weak (F' := mkFr 55 ([7, 23, 24, 25].zip (sSL 6))) (SWs.mkFr _ _ (.cons .refl (.cons .refl (.cons .refl (.cons (.intB (by decide) (by decide) (by decide)) .nil))))) (firstAL2 d)) ?_
  exact chainL hA d (fun lf od _ _ => finL hA d lf od) 370 1 rfl 1 0 6 4096 _ _ rfl (by decide) (by decide) (by decide) (by decide) rfl rfl
theorem specL2 (hA : EnvOK Tryz.prog envA) (d : Dr) (hd : d.an < d.ad) : OSpec Tryz.prog 27 [cfgV 2 d, .sl 0] [rowZ] fun s ho => s = .tup [.int .i64 (-1), .int .i64 0] /\ ho = [rowZ] := by
 have hnt : Tryz.f27.ntmps = 55 := by kernel_rfl
 have hb : Tryz.f27.body = some (bodyOf Tryz.f27) := by kernel_rfl
 have hr' : Tryz.f27.results.toList = [.tmp 4, .tmp 5] := by kernel_rfl
 have hnm : (Tryz.f27.name == "runtime.NumGoroutine") = false := by kernel_rfl
 exact OSpec.of_bok2 Tryz.func27 hnm hb hnt hr' (Eq.mpr (aFL2_view 2 d) (Eq.refl _)) row_free res_free (by rfl) (by rfl) (bodyL2 hA d hd)
set_option maxRecDepth 100000 in
theorem firstAC1 (d : Dr) : HWk (bPC1 d) (bSC1 rowZ d 1 6 2952069120 (kmap (.int .i64 4096) 1 1)) := by
 unfold bPC1 bSC1
 refine .cons .refl ?_
 refine .cons (by exact BW.mapG (by rw [kmap_one]; exact .cons (.intB (by decide) (by decide) (by decide)) .refl (.cons (.intB (by decide) (by decide) (by decide)) .refl .nil))) ?_
 refine .cons (by exact .refl) ?_
 refine .cons (by exact .refl) ?_
 refine .cons (by exact .refl) ?_
 refine .cons (by exact .refl) ?_
 refine .cons (by exact BW.mapB1 .refl (.agg (.cons .refl (.cons .refl (.cons (.intB (by decide) (by decide) (by decide)) .nil))))) ?_
 refine .cons (by exact BW.fix (.cons .refl (.cons .refl (.cons .refl (.cons (.intB (by decide) (by decide) (by decide)) .refl))))) ?_
 refine .cons (by exact BW.fix (.cons .refl (.cons .refl (.cons .refl (.cons .refl (.cons .refl (.cons .refl (.cons .refl (.cons .refl (.cons .refl (.cons .refl (.cons .refl (.cons .refl (.cons .refl (.cons .refl (.cons .refl (.cons .refl (.cons .refl (.cons .refl (.cons .refl (.cons .refl (.cons .refl (.cons (.intB (by decide) (by decide) (by decide)) .nil))))))))))))))))))))))) ?_
 exact .nil
theorem aFC1_view (m : Int) (d : Dr) : startW [cfgV m d, .sl 0] 70 (fun F => F = aF m d) = (aF m d = aF m d) := by kernel_rfl
theorem bodyC1 (hA : EnvOK Tryz.prog envA) (d : Dr) (hd : d.an < d.ad) : BOK Tryz.prog [rowZ] (bodyOf Tryz.f28) (viewF 70 (aF 1 d)) [rowZ] fun x F h => x = .ret /\ F = (mkFr 70 ([4, 5].zip [.int .i64 (-1), .int .i64 0])) /\ h = [rowZ] := by
 have hb : bodyOf Tryz.f28 = choPre.foldr Code.seq choRest := (heads_tail 4 _).symm
 rw [hb, choRest_eq]
 have hq := preC1 d
 unfold preQC1 at hq
 have h9 : preAC1 d := ⟨hd, rfl, rfl, rfl, rfl⟩
 have key := begin_sound2 (K := fun x F h => x = .ret /\ F = (mkFr 70 ([4, 5].zip [.int .i64 (-1), .int .i64 0])) /\ h = [rowZ]) (k := 2 + 4 * (370 + 1)) (id := 0) (endc := choEnd) hA hq h9 (by decide) (by rw [gZ_view]; rfl) ?_
 ·rw [gZ_view] at key
  exact key
 ·rw [gZ_view, hPC1_view]
  refine BRounds.goes (Goes.weak (F' := mkFr 70 ([7, 26, 27, 28].zip (sSC1 6))) (SWs.mkFr _ _ (.cons .refl (.cons .refl (.cons .refl (.cons (.intB (by decide) (by decide) (by decide)) .nil))))) (firstAC1 d)) ?_
  exact chainC1 hA d (finC1 hA d) 370 1 rfl 1 6 2952069120 rfl (by decide) (by decide) (by decide)
theorem specC1 (hA : EnvOK Tryz.prog envA) (d : Dr) (hd : d.an < d.ad) : OSpec Tryz.prog 28 [cfgV 1 d, .sl 0] [rowZ] fun s ho => s = .tup [.int .i64 (-1), .int .i64 0] /\ ho = [rowZ] := by
 have hnt : Tryz.f28.ntmps = 70 := by kernel_rfl
 have hb : Tryz.f28.body = some (bodyOf Tryz.f28) := by kernel_rfl
 have hr' : Tryz.f28.results.toList = [.tmp 4, .tmp 5] := by kernel_rfl
 have hnm : (Tryz.f28.name == "runtime.NumGoroutine") = false := by kernel_rfl
 exact OSpec.of_bok2 Tryz.func28 hnm hb hnt hr' (Eq.mpr (aFC1_view 1 d) (Eq.refl _)) row_free res_free (by rfl) (by rfl) (bodyC1 hA d hd)
set_option maxRecDepth 100000 in
theorem firstAC2 (d : Dr) : HWk (bPC2 d) (bSC2 rowZ d 1 6 2952069120 (kmap (.int .i64 4096) 1 1)) := by
 unfold bPC2 bSC2
 refine .cons .refl ?_
 refine .cons (by exact BW.mapG (by rw [kmap_one]; exact .cons (.intB (by decide) (by decide) (by decide)) .refl (.cons (.intB (by decide) (by decide) (by decide)) .refl .nil))) ?_
 refine .cons (by exact .refl) ?_
 refine .cons (by exact .refl) ?_
 refine .cons (by exact .refl) ?_
 refine .cons (by exact .refl) ?_
 refine .cons (by exact BW.mapB1 .refl (.agg (.cons .refl (.cons .refl (.cons (.intB (by decide) (by decide) (by decide)) .nil))))) ?_
 refine .cons (by exact BW.fix (.cons .refl (.cons .refl (.cons .refl (.cons (.intB (by decide) (by decide) (by decide)) .refl))))) ?_
 refine .cons (by exact BW.fix (.cons .refl (.cons .refl (.cons .refl (.cons .refl (.cons .refl (.cons .refl (.cons .refl (.cons .refl (.cons .refl (.cons .refl (.cons .refl (.cons .refl (.cons .refl (.cons .refl (.cons .refl (.cons .refl (.cons .refl (.cons .refl (.cons .refl (.cons .refl (.cons .refl (.cons (.intB (by decide) (by decide) (by decide)) .nil))))))))))))))))))))))) ?_
 exact .nil
theorem aFC2_view (m : Int) (d : Dr) : startW [cfgV m d, .sl 0] 70 (fun F => F = aF m d) = (aF m d = aF m d) := by kernel_rfl
theorem bodyC2 (hA : EnvOK Tryz.prog envA) (d : Dr) (hd : d.an < d.ad) : BOK Tryz.prog [rowZ] (bodyOf Tryz.f28) (viewF 70 (aF 2 d)) [rowZ] fun x F h => x = .ret /\ F = (mkFr 70 ([4, 5].zip [.int .i64 (-1), .int .i64 0])) /\ h = [rowZ] := by
 have hb : bodyOf Tryz.f28 = choPre.foldr Code.seq choRest := (heads_tail 4 _).symm
 rw [hb, choRest_eq]
 have hq := preC2 d
 unfold preQC2 at hq
 have h9 : preAC2 d := ⟨hd, rfl, rfl, rfl, rfl⟩
 have key := begin_sound2 (K := fun x F h => x = .ret /\ F = (mkFr 70 ([4, 5].zip [.int .i64 (-1), .int .i64 0])) /\ h = [rowZ]) (k := 2 + 4 * (370 + 1)) (id := 0) (endc := choEnd) hA hq h9 (by decide) (by rw [gZ_view]; rfl) ?_
 ·rw [gZ_view] at key
  exact key
 ·rw [gZ_view, hPC2_view]
  refine BRounds.goes (Goes.weak (F' := mkFr 70 ([7, 26, 27, 28].zip (sSC2 6))) (SWs.mkFr _ _ (.cons .refl (.cons .refl (.cons .refl (.cons (.intB (by decide) (by decide) (by decide)) .nil))))) (firstAC2 d)) ?_
  exact chainC2 hA d (finC2 hA d) 370 1 rfl 1 6 2952069120 rfl (by decide) (by decide) (by decide)
theorem specC2 (hA : EnvOK Tryz.prog envA) (d : Dr) (hd : d.an < d.ad) : OSpec Tryz.prog 28 [cfgV 2 d, .sl 0] [rowZ] fun s ho => s = .tup [.int .i64 (-1), .int .i64 0] /\ ho = [rowZ] := by
 have hnt : Tryz.f28.ntmps = 70 := by kernel_rfl
 have hb : Tryz.f28.body = some (bodyOf Tryz.f28) := by kernel_rfl
 have hr' : Tryz.f28.results.toList = [.tmp 4, .tmp 5] := by kernel_rfl
 have hnm : (Tryz.f28.name == "runtime.NumGoroutine") = false := by kernel_rfl
 exact OSpec.of_bok2 Tryz.func28 hnm hb hnt hr' (Eq.mpr (aFC2_view 2 d) (Eq.refl _)) row_free res_free (by rfl) (by rfl) (bodyC2 hA d hd)
end Go.Proofs.YtbppedokdfmnoaaGreatDoor

namespace Go.Sx
section
variable {P : Program}
theorem PSpec.args {f : FuncId} {args args' : List SV} {R : SV -> Prop} {B : Prop} (hs : B -> PSpec P f args R) (h : ∀ (w : World) (E : Nat -> Prop) (σ : Sg) (vs : List Value), RepL w E σ args' vs -> B /\ RepL w E σ args vs) : PSpec P f args' R :=
 ⟨fun hp K hk => ⟨fun w X σ vs hI hr => ((hs (h _ _ _ _ hr).1).ok hp K hk).ok w X σ vs hI (h _ _ _ _ hr).2⟩⟩
end
end Go.Sx
namespace Go.Proofs.YtbppedokdfmnoaaGreatDoor
open Go.Sx
theorem mulZ_ok : PSpOK Tryz.prog 324 mulZ := by
 intro l k h
 unfold mulZ at h
 split at h
 ·rename_i a y lo hi m r
  obtain ⟨h1, ha⟩ := bChk_sound h
  obtain ⟨h2, hb⟩ := bChk_sound ha
  obtain ⟨h3, hk⟩ := bChk_sound hb
  rw [eqI_eq] at h1
  rw [Go.Sx.leI_eq] at h2 h3
  have h1 := of_decide_eq_true h1
  have h2 := of_decide_eq_true h2
  have h3 := of_decide_eq_true h3
  subst h1
  refine ⟨_, hk, PSpec.args (args := [.int .u64 0, .int .u64 y]) (B := 0 <= y /\ y < 18446744073709551616) (fun b => ?_) fun w E σ vs hr => ?_⟩
  ·have := mul64_s 0 y (by decide) (by decide) b.1 b.2
   rw [Int.zero_mul] at this
   exact this
  ·obtain ⟨hl, hr⟩ := hr
   match vs, hl with
   | [u, v], _ =>
    have a0 := hr 0 _ u rfl rfl
    have a1 := hr 1 _ v rfl rfl
    cases a1 with
    | iv b1 b2 b3 =>
     refine ⟨⟨by omega, by omega⟩, rfl, fun i s x hs hx => ?_⟩
     match i with
     | 0 => simp at hs hx; subst hs; subst hx; exact a0
     | 1 => simp at hs hx; subst hs; subst hx; exact .int
     | i + 2 => simp at hs
 ·rename_i y lo hi m r a
  obtain ⟨h1, ha⟩ := bChk_sound h
  obtain ⟨h2, hb⟩ := bChk_sound ha
  obtain ⟨h3, hk⟩ := bChk_sound hb
  rw [eqI_eq] at h1
  rw [Go.Sx.leI_eq] at h2 h3
  have h1 := of_decide_eq_true h1
  have h2 := of_decide_eq_true h2
  have h3 := of_decide_eq_true h3
  subst h1
  refine ⟨_, hk, PSpec.args (args := [.int .u64 y, .int .u64 0]) (B := 0 <= y /\ y < 18446744073709551616) (fun b => ?_) fun w E σ vs hr => ?_⟩
  ·have := mul64_s y 0 b.1 b.2 (by decide) (by decide)
   rw [Int.mul_zero] at this
   exact this
  ·obtain ⟨hl, hr⟩ := hr
   match vs, hl with
   | [u, v], _ =>
    have a0 := hr 0 _ u rfl rfl
    have a1 := hr 1 _ v rfl rfl
    cases a0 with
    | iv b1 b2 b3 =>
     refine ⟨⟨by omega, by omega⟩, rfl, fun i s x hs hx => ?_⟩
     match i with
     | 0 => simp at hs hx; subst hs; subst hx; exact .int
     | 1 => simp at hs hx; subst hs; subst hx; exact a1
     | i + 2 => simp at hs
 ·exact h.elim
theorem envA_ok : EnvOK Tryz.prog envA where
 tab := tab_ok
 ft := ft_ok
 mt := mt_ok
 mixed := env_ok.mixed
 it := it_ok
 ps := fun f sp h => by
  have := assocD_mem h
  simp only [envA, pspecsA, pspecs, List.mem_cons, List.not_mem_nil, or_false, Prod.mk.injEq] at this
  rcases this with ⟨rfl, rfl⟩ | ⟨rfl, rfl⟩ | ⟨rfl, rfl⟩ | ⟨rfl, rfl⟩
  ·exact mulZ_ok
  ·exact count_ok
  ·exact index_ok
  ·exact same_ok
 hs := env_ok.hs
theorem argA {m : Int} {d : Dr} {b : Nat} : argsK [b] [cfgV m d, .sl 0] [cfgV m d, .sl b] True := by
 unfold cfgV
 exact ⟨rfl, eqNK_self (k := True) trivial⟩
theorem ret_ok {f : FuncId} {m : Int} {d : Dr} (hs : OSpec Tryz.prog f [cfgV m d, .sl 0] [rowZ] fun s ho => s = .tup [.int .i64 (-1), .int .i64 0] /\ ho = [rowZ]) (l : List SV) (H : HW) (K : KV3) (h : auditH m d l H K) : CallL Tryz.prog f l H K := by
 unfold auditH at h
 split at h
 ·rename_i x b
  rw [getH_eq] at h
  obtain ⟨blk, hb, ⟨e1, e2⟩, hk⟩ := nthK_sound h
  clear h
  subst e1; subst e2
  exact CallL.of_ospecR hs (.refl _) argA hb hk
 ·exact h.elim
noncomputable def hspecsC (m : Int) (d : Dr) : List (FuncId × HSp) := (27, auditH m d) :: (28, auditH m d) :: hspecs
noncomputable def envC (m : Int) (d : Dr) : Env := ⟨tab, ftab, mtab, pspecs, hspecsC m d, itab, true⟩
theorem envC_ok {m : Int} {d : Dr} (h27 : OSpec Tryz.prog 27 [cfgV m d, .sl 0] [rowZ] fun s ho => s = .tup [.int .i64 (-1), .int .i64 0] /\ ho = [rowZ])
  (h28 : OSpec Tryz.prog 28 [cfgV m d, .sl 0] [rowZ] fun s ho => s = .tup [.int .i64 (-1), .int .i64 0] /\ ho = [rowZ]) : EnvOK Tryz.prog (envC m d) where
 tab := tab_ok
 ft := ft_ok
 mt := mt_ok
 mixed := env_ok.mixed
 it := it_ok
 ps := env_ok.ps
 hs := fun f sp h => by
  have := assocD_mem h
  simp only [envC, hspecsC, hspecs, List.mem_cons, List.not_mem_nil, or_false, Prod.mk.injEq] at this
  rcases this with ⟨rfl, rfl⟩ | ⟨rfl, rfl⟩ | ⟨rfl, rfl⟩ | ⟨rfl, rfl⟩ | ⟨rfl, rfl⟩ | ⟨rfl, rfl⟩ | ⟨rfl, rfl⟩
  ·exact ret_ok h27
  ·exact ret_ok h28
  ·exact clone_ok
  ·exact seq_ok
  ·exact check_ok
  ·exact grow_ok
  ·exact fmt_ok
def chkQ (m : Int) (d : Dr) : Prop := callsV Tryz.prog (envC m d) (run (envC m d)) 12 [cfgV m d, .sl 0] (gZ rowZ) fun s H _ => s = .tup [.int .i64 (-1), .int .i64 0] /\ H = gZ rowZ
def chkA (m : Int) (d : Dr) : Prop := (cfgV m d = cfgV m d /\ rowZ = .row 90 6 logZ) /\ (cfgV m d = cfgV m d /\ rowZ = .row 90 6 logZ) /\ SV.tup [.int .i64 (-1), .int .i64 0] = .tup [.int .i64 (-1), .int .i64 0] /\ gZ rowZ = gZ rowZ
theorem chk (m : Int) (d : Dr) : chkQ m d = chkA m d := by kernel_rfl
theorem chk_spec {m : Int} {d : Dr} (hV : EnvOK Tryz.prog (envC m d)) : OSpec Tryz.prog 12 [cfgV m d, .sl 0] [rowZ] fun s ho => s = .tup [.int .i64 (-1), .int .i64 0] /\ ho = [rowZ] := by
 have hq := chk m d
 unfold chkQ at hq
 obtain ⟨s, H', wc, ⟨e1, e2⟩, _, _, hc⟩ := run_eq hV fuel hq ⟨⟨rfl, rfl⟩, ⟨rfl, rfl⟩, rfl, rfl⟩
 subst e1; subst e2
 rw [gZ_view] at hc
 exact OSpec.of_gd hc (row_free _ (by simp)) (row_free _ (by simp)) res_free
theorem audit1 {d : Dr} (hd : d.an < d.ad) : ∀ (l : List SV) (H : HW) (K : KV3), auditH 1 d l H K -> CallL Tryz.prog 12 l H K := ret_ok (chk_spec (envC_ok (specL1 envA_ok d hd) (specC1 envA_ok d hd)))
theorem audit2 {d : Dr} (hd : d.an < d.ad) : ∀ (l : List SV) (H : HW) (K : KV3), auditH 2 d l H K -> CallL Tryz.prog 12 l H K := ret_ok (chk_spec (envC_ok (specL2 envA_ok d hd) (specC2 envA_ok d hd)))
theorem envZ_ok {m : Int} {d : Dr} (ha : ∀ (l : List SV) (H : HW) (K : KV3), auditH m d l H K -> CallL Tryz.prog 12 l H K) : EnvOK Tryz.prog (envZ m d) where
 tab := tab_ok
 ft := ft_ok
 mt := mt_ok
 mixed := env_ok.mixed
 it := it_ok
 ps := env_ok.ps
 hs := fun f sp h => by
  have := assocD_mem h
  simp only [envZ, hspecsZ, hspecs, List.mem_cons, List.not_mem_nil, or_false, Prod.mk.injEq] at this
  rcases this with ⟨rfl, rfl⟩ | ⟨rfl, rfl⟩ | ⟨rfl, rfl⟩ | ⟨rfl, rfl⟩ | ⟨rfl, rfl⟩ | ⟨rfl, rfl⟩ | ⟨rfl, rfl⟩ | ⟨rfl, rfl⟩ | ⟨rfl, rfl⟩
  ·exact ha
  ·exact prd_ok
  ·exact obs_ok
  ·exact sane_ok
  ·exact clone_ok
  ·exact seq_ok
  ·exact check_ok
  ·exact grow_ok
  ·exact fmt_ok
end Go.Proofs.YtbppedokdfmnoaaGreatDoor

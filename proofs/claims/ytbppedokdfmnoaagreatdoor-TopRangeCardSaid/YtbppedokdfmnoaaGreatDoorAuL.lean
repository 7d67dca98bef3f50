/- Part of the executor and its soundness, or of what it is told of this seat's program. No statement of the seat is proved here. -/
import Derived.Test.YtbppedokdfmnoaaGreatDoorAu
import Derived.Test.YtbppedokdfmnoaaGreatDoorRe
set_option linter.unusedSimpArgs false
set_option linter.unusedVariables false
namespace Go.Proofs.YtbppedokdfmnoaaGreatDoor
open Go.Sx
noncomputable def hSL (b0 : Blk) (d : Dr) (N n L B : Int) (lf od : List (List SV)) (fm sm : List (SV × SV)) : HW := hwT 7 ⟨⟨b0,
 .gmap sm [],
 .gmap fm [(.bs .i64 N 1 2 372, .int .i64 0)],
 .gap 3 1 n 0 370 od [[.bs .i64 N 0 1 371]] [],
 .gap 303 4 N 1 371 lf [[.int .i64 0, .int .i64 4096, .int .i64 1, .int .i64 0]] [],
 .fix 110 (.sl 4 :: .int .i64 0 :: .bs .i64 N 1 2 372 :: .bs .i64 N 0 1 371 :: .int .i64 0 :: .bs .i64 B 0 0 1519616 :: .int .i64 0 :: .sl 3 :: flZ 31),
 .fix 143 [.ptr 5 0, .iv .i64 d.5 1 4 1 0, .bs .i64 N (-1) 0 370, .mp 2, .mp 1],
 .dead,
 .dead,
 .dead,
 .dead,
 .dead,
 .dead,
 .dead,
 .dead,
 .dead⟩,
 R16.rep .dead,
 R16.rep .dead,
 R16.rep .dead,
 R16.rep .dead,
 R16.rep .dead,
 R16.rep .dead,
 R16.rep .dead,
 R16.rep .dead,
 R16.rep .dead,
 R16.rep .dead,
 R16.rep .dead,
 R16.rep .dead,
 R16.rep .dead,
 R16.rep .dead,
 R16.rep .dead⟩
noncomputable def bSL (b0 : Blk) (d : Dr) (N n L B : Int) (lf od : List (List SV)) (fm sm : List (SV × SV)) : Hp := [b0,
 .gmap sm [],
 .gmap fm [(.bs .i64 N 1 2 372, .int .i64 0)],
 .gap 3 1 n 0 370 od [[.bs .i64 N 0 1 371]] [],
 .gap 303 4 N 1 371 lf [[.int .i64 0, .int .i64 4096, .int .i64 1, .int .i64 0]] [],
 .fix 110 (.sl 4 :: .int .i64 0 :: .bs .i64 N 1 2 372 :: .bs .i64 N 0 1 371 :: .int .i64 0 :: .bs .i64 B 0 0 1519616 :: .int .i64 0 :: .sl 3 :: flZ 31),
 .fix 143 [.ptr 5 0, .iv .i64 d.5 1 4 1 0, .bs .i64 N (-1) 0 370, .mp 2, .mp 1]]
theorem hSL_view (b0 : Blk) (d : Dr) (N n L B : Int) (lf od : List (List SV)) (fm sm : List (SV × SV)) : (hSL b0 d N n L B lf od fm sm).view = bSL b0 d N n L B lf od fm sm := by kernel_rfl
noncomputable def sSL (L : Int) : List SV := [.ptr 6 0, .sl 0, .int .i64 1491, .bs .i64 L 0 6 1486]
noncomputable def fSL (L : Int) : FW := ⟨⟨.any, .any, .any, .any, .any, .any, .any, .ptr 6 0, .any, .any, .any, .any, .any, .any, .any, .any⟩, ⟨.any, .any, .any, .any, .any, .any, .any, .sl 0, .int .i64 1491, .bs .i64 L 0 6 1486, .any, .any, .any, .any, .any, .any⟩, R16.rep .any, R16.rep .any, R16.rep .any, R16.rep .any, R16.rep .any, R16.rep .any, R16.rep .any, R16.rep .any, R16.rep .any, R16.rep .any, R16.rep .any, R16.rep .any, R16.rep .any, R16.rep .any⟩
theorem fSL_view (L : Int) : viewF 55 (fSL L) = mkFr 55 ([7, 23, 24, 25].zip (sSL L)) := by kernel_rfl
noncomputable def hZL (b0 : Blk) (d : Dr) (N n L B : Int) (lf od : List (List SV)) (fm sm : List (SV × SV)) : HW := hwT 7 ⟨⟨b0,
 .gmap sm [],
 .gmap fm [(.bs .i64 N 1 373 373, .int .i64 0)],
 .gap 3 1 n 371 371 od [[.bs .i64 N 0 372 372]] [],
 .gap 303 4 N 372 372 lf [[.int .i64 0, .int .i64 4096, .int .i64 1, .int .i64 0]] [],
 .fix 110 (.sl 4 :: .int .i64 0 :: .bs .i64 N 1 373 373 :: .bs .i64 N 0 372 372 :: .int .i64 0 :: .bs .i64 B 0 0 1523712 :: .int .i64 0 :: .sl 3 :: flZ 31),
 .fix 143 [.ptr 5 0, .iv .i64 d.5 1 4 1 0, .bs .i64 N (-1) 371 371, .mp 2, .mp 1],
 .dead,
 .dead,
 .dead,
 .dead,
 .dead,
 .dead,
 .dead,
 .dead,
 .dead⟩,
 R16.rep .dead,
 R16.rep .dead,
 R16.rep .dead,
 R16.rep .dead,
 R16.rep .dead,
 R16.rep .dead,
 R16.rep .dead,
 R16.rep .dead,
 R16.rep .dead,
 R16.rep .dead,
 R16.rep .dead,
 R16.rep .dead,
 R16.rep .dead,
 R16.rep .dead,
 R16.rep .dead⟩
noncomputable def bZL (b0 : Blk) (d : Dr) (N n L B : Int) (lf od : List (List SV)) (fm sm : List (SV × SV)) : Hp := [b0,
 .gmap sm [],
 .gmap fm [(.bs .i64 N 1 373 373, .int .i64 0)],
 .gap 3 1 n 371 371 od [[.bs .i64 N 0 372 372]] [],
 .gap 303 4 N 372 372 lf [[.int .i64 0, .int .i64 4096, .int .i64 1, .int .i64 0]] [],
 .fix 110 (.sl 4 :: .int .i64 0 :: .bs .i64 N 1 373 373 :: .bs .i64 N 0 372 372 :: .int .i64 0 :: .bs .i64 B 0 0 1523712 :: .int .i64 0 :: .sl 3 :: flZ 31),
 .fix 143 [.ptr 5 0, .iv .i64 d.5 1 4 1 0, .bs .i64 N (-1) 371 371, .mp 2, .mp 1]]
theorem hZL_view (b0 : Blk) (d : Dr) (N n L B : Int) (lf od : List (List SV)) (fm sm : List (SV × SV)) : (hZL b0 d N n L B lf od fm sm).view = bZL b0 d N n L B lf od fm sm := by kernel_rfl
noncomputable def sZL (L : Int) : List SV := [.ptr 6 0, .sl 0, .int .i64 1491, .bs .i64 L 0 1490 1490]
noncomputable def fZL (L : Int) : FW := ⟨⟨.any, .any, .any, .any, .any, .any, .any, .ptr 6 0, .any, .any, .any, .any, .any, .any, .any, .any⟩, ⟨.any, .any, .any, .any, .any, .any, .any, .sl 0, .int .i64 1491, .bs .i64 L 0 1490 1490, .any, .any, .any, .any, .any, .any⟩, R16.rep .any, R16.rep .any, R16.rep .any, R16.rep .any, R16.rep .any, R16.rep .any, R16.rep .any, R16.rep .any, R16.rep .any, R16.rep .any, R16.rep .any, R16.rep .any, R16.rep .any, R16.rep .any⟩
theorem fZL_view (L : Int) : viewF 55 (fZL L) = mkFr 55 ([7, 23, 24, 25].zip (sZL L)) := by kernel_rfl
end Go.Proofs.YtbppedokdfmnoaaGreatDoor

namespace Go.Proofs.YtbppedokdfmnoaaGreatDoor
open Go.Sx
noncomputable def hTL (b0 : Blk) (d : Dr) (N n L B : Int) (lf od : List (List SV)) (fm sm : List (SV × SV)) : HW := hwT 7 ⟨⟨b0,
 .gmap sm [(.bs .i64 N 1 2 372, .int .i64 1)],
 .gmap fm [(.bs .i64 N 1 2 372, .int .i64 0), (.bs .i64 N 2 3 373, .int .i64 0)],
 .gap 3 1 n 0 370 od [[.bs .i64 N 0 1 371], [.bs .i64 N 1 2 372]] [],
 .gap 303 4 N 1 371 lf [[.int .i64 0, .int .i64 4096, .int .i64 3, .int .i64 0], [.int .i64 0, .int .i64 4096, .int .i64 1, .int .i64 0]] [],
 .fix 110 (.sl 4 :: .int .i64 0 :: .bs .i64 N 2 3 373 :: .bs .i64 N 1 2 372 :: .int .i64 0 :: .bs .i64 B 4096 4096 1523712 :: .int .i64 0 :: .sl 3 :: flZ 31),
 .fix 143 [.ptr 5 0, .iv .i64 d.5 1 4 1 0, .bs .i64 N 0 1 371, .mp 2, .mp 1],
 .dead,
 .dead,
 .dead,
 .dead,
 .dead,
 .dead,
 .dead,
 .dead,
 .dead⟩,
 R16.rep .dead,
 R16.rep .dead,
 R16.rep .dead,
 R16.rep .dead,
 R16.rep .dead,
 R16.rep .dead,
 R16.rep .dead,
 R16.rep .dead,
 R16.rep .dead,
 R16.rep .dead,
 R16.rep .dead,
 R16.rep .dead,
 R16.rep .dead,
 R16.rep .dead,
 R16.rep .dead⟩
noncomputable def bTL (b0 : Blk) (d : Dr) (N n L B : Int) (lf od : List (List SV)) (fm sm : List (SV × SV)) : Hp := [b0,
 .gmap sm [(.bs .i64 N 1 2 372, .int .i64 1)],
 .gmap fm [(.bs .i64 N 1 2 372, .int .i64 0), (.bs .i64 N 2 3 373, .int .i64 0)],
 .gap 3 1 n 0 370 od [[.bs .i64 N 0 1 371], [.bs .i64 N 1 2 372]] [],
 .gap 303 4 N 1 371 lf [[.int .i64 0, .int .i64 4096, .int .i64 3, .int .i64 0], [.int .i64 0, .int .i64 4096, .int .i64 1, .int .i64 0]] [],
 .fix 110 (.sl 4 :: .int .i64 0 :: .bs .i64 N 2 3 373 :: .bs .i64 N 1 2 372 :: .int .i64 0 :: .bs .i64 B 4096 4096 1523712 :: .int .i64 0 :: .sl 3 :: flZ 31),
 .fix 143 [.ptr 5 0, .iv .i64 d.5 1 4 1 0, .bs .i64 N 0 1 371, .mp 2, .mp 1]]
theorem hTL_view (b0 : Blk) (d : Dr) (N n L B : Int) (lf od : List (List SV)) (fm sm : List (SV × SV)) : (hTL b0 d N n L B lf od fm sm).view = bTL b0 d N n L B lf od fm sm := by kernel_rfl
noncomputable def sTL (L : Int) : List SV := [.ptr 6 0, .sl 0, .int .i64 1491, .bs .i64 L 4 10 1490]
def roundQL (d : Dr) (N n L B : Int) (lf od : List (List SV)) (fm sm : List (SV × SV)) (p : List SV) (lg ps : List (List SV)) : Prop := timesV Tryz.prog envA (run envA) 1 55 livLoop 4 (fSL L) (hSL (gapN N L lg ps p) d N n L B lf od fm sm) [] fun _ F' H' wr => tidyV 55 1 (gZ (gapN N L lg ps p)) [7, 23, 24, 25] F' H' wr fun ss H'' => ss = sTL L /\ H'' = hTL (gapN N L lg ps p) d N n L B lf od fm sm
def roundAL (d : Dr) (N n L B : Int) (lf od : List (List SV)) (fm sm : List (SV × SV)) (p : List SV) (lg ps : List (List SV)) : Prop := L = L /\
 L = L /\
 N = N /\
 notIn (.bs .i64 N 2 3 373) fm /\
 N = N /\
 N = N /\
 notIn (.bs .i64 N 2 3 373) fm /\
 N = N /\
 L = L /\
 L = L /\
 N = N /\
 notIn (.int .i64 (0)) fm /\
 L = L /\
 L = L /\
 N = N /\
 notIn (.bs .i64 N 1 2 372) fm /\
 N = N /\
 notIn (.bs .i64 N 1 2 372) sm /\
 N = N /\
 N = N /\
 N = N /\
 notIn (.bs .i64 N 1 2 372) sm /\
 N = N /\
 N = N /\
 N = N /\
 N = N /\
 N = N /\
 N = N /\
 N = N /\
 L = L /\
 L = L /\
 N = N /\
 notIn (.bs .i64 N 1 2 372) fm /\
 N = N /\
 notIn (.bs .i64 N 1 2 372) sm /\
 N = N /\
 N = N /\
 N = N /\
 N = N /\
 N = N /\
 n = n /\
 n = n /\
 N = N /\
 N = N /\
 N = N /\
 sTL L = sTL L /\
 hTL (gapN N L lg ps p) d N n L B lf od fm sm = hTL (gapN N L lg ps p) d N n L B lf od fm sm
theorem roundL (d : Dr) (N n L B : Int) (lf od : List (List SV)) (fm sm : List (SV × SV)) (p : List SV) (lg ps : List (List SV)) : roundQL d N n L B lf od fm sm p lg ps = roundAL d N n L B lf od fm sm p lg ps := by kernel_rfl
theorem roundL_true (d : Dr) (N n L B : Int) (lf od : List (List SV)) (fm sm : List (SV × SV)) (p : List SV) (lg ps : List (List SV)) (q1fm : notIn (.bs .i64 N 1 2 372) fm) (q2fm : notIn (.bs .i64 N 2 3 373) fm) (q0fm : notIn (.int .i64 0) fm) (q1sm : notIn (.bs .i64 N 1 2 372) sm) : roundAL d N n L B lf od fm sm p lg ps := by
 exact ⟨rfl, rfl, rfl, q2fm, rfl, rfl, q2fm, rfl, rfl, rfl, rfl, q0fm, rfl, rfl, rfl, q1fm, rfl, q1sm, rfl, rfl, rfl, q1sm, rfl, rfl, rfl, rfl, rfl, rfl, rfl, rfl, rfl, rfl, q1fm, rfl, q1sm, rfl, rfl, rfl, rfl, rfl, rfl, rfl, rfl, rfl, rfl, rfl, rfl⟩
theorem roundL_go (hA : EnvOK Tryz.prog envA) (d : Dr) (N n L B : Int) (lf od : List (List SV)) (fm sm : List (SV × SV)) (p : List SV) (lg ps : List (List SV)) (q1fm : notIn (.bs .i64 N 1 2 372) fm) (q2fm : notIn (.bs .i64 N 2 3 373) fm) (q0fm : notIn (.int .i64 0) fm) (q1sm : notIn (.bs .i64 N 1 2 372) sm) {K : Post} {j : Nat} (hk : BRounds Tryz.prog [(gapN N L lg ps p)] livLoop j (mkFr 55 ([7, 23, 24, 25].zip (sTL L))) (bTL (gapN N L lg ps p) d N n L B lf od fm sm) K) :
  BRounds Tryz.prog [(gapN N L lg ps p)] livLoop (j + 4) (mkFr 55 ([7, 23, 24, 25].zip (sSL L))) (bSL (gapN N L lg ps p) d N n L B lf od fm sm) K := by
 have hq := roundL d N n L B lf od fm sm p lg ps
 unfold roundQL at hq
 have h9 := roundL_true d N n L B lf od fm sm p lg ps q1fm q2fm q0fm q1sm
 rw [<- hTL_view] at hk
 rw [<- fSL_view, <- hSL_view]
 rw [<- gZ_view] at hk ⊢
 refine BRounds.runs hA hq h9 (by decide) (by rw [gZ_view]; rfl) (by rw [hSL_view, bSL]; exact Nat.le_add_left 1 _) (fun i hi => ?_) hk
 have : i = 0 := by omega
 subst this
 rw [hSL_view, gZ_view, bSL]
 rfl
set_option maxRecDepth 100000 in
theorem weakSL (b0 : Blk) (d : Dr) (k : Nat) (N n L B : Int) (lf od : List (List SV)) (h1 : N = k) (h0 : 1 <= N) (h2 : N <= 370) (hn : n = N - 1) (hB : B = 4096 * N) (hL : L = 4 * N + 2) (kf : (lf.length : Int) = N) (ko : (od.length : Int) = n) : HWk (bTL b0 d N n L B lf od (kmap (.int .i64 0) N k) (kmap (.int .i64 1) N k)) (bSL b0 d (N + 1) (n + 1) (L + 4) (B + 4096) (lf ++ [[.int .i64 0, .int .i64 4096, .int .i64 3, .int .i64 0]]) (od ++ [[.int .i64 N]]) (kmap (.int .i64 0) (N + 1) (k + 1)) (kmap (.int .i64 1) (N + 1) (k + 1))) := by
 unfold bTL bSL
 refine .cons (by exact BW.refl) ?_
 refine .cons (by exact BW.gmap (by rw [kmap_succ, List.append_nil]; exact EWs.append (kmap_to _ _ _ _ (by omega)) (.cons (.bs (by omega) (by omega) (by omega)) .refl .nil))) ?_
 refine .cons (by exact BW.gmap (by rw [kmap_succ, List.append_assoc]; exact EWs.append (kmap_to _ _ _ _ (by omega)) (.cons (.bs (by omega) (by omega) (by omega)) .refl (.cons (.bs (by omega) (by omega) (by omega)) .refl .nil)))) ?_
 refine .cons (by exact BW.gapTo (l := od ++ [[.int .i64 N], [.bs .i64 (N + 1) 0 1 371]]) (RWs.append .refl (.cons (.cons (.bsI (by omega)) .nil) (.cons (.cons (.bs (by omega) (by omega) (by omega)) .nil) .nil))) (by simp) (by omega) (by omega) (by simp; omega)) ?_
 refine .cons (by exact BW.gapTo (l := lf ++ [[.int .i64 0, .int .i64 4096, .int .i64 3, .int .i64 0], [.int .i64 0, .int .i64 4096, .int .i64 1, .int .i64 0]]) .refl (by simp) (by omega) (by omega) (by simp; omega)) ?_
 refine .cons (by exact BW.fix (.cons .refl (.cons .refl (.cons (.bs (by omega) (by omega) (by omega)) (.cons (.bs (by omega) (by omega) (by omega)) (.cons .refl (.cons (.bs (by omega) (by omega) (by omega)) .refl))))))) ?_
 refine .cons (by exact BW.fix (.cons .refl (.cons .refl (.cons (.bs (by omega) (by omega) (by omega)) .refl)))) ?_
 exact .nil
set_option maxRecDepth 100000 in
theorem weakZL (b0 : Blk) (d : Dr) (k : Nat) (N n L B : Int) (lf od : List (List SV)) (h1 : N = k) (h2 : N = 371) (hn : n = N - 1) (hB : B = 4096 * N) (hL : L = 4 * N + 2) (kf : (lf.length : Int) = N) (ko : (od.length : Int) = n) : HWk (bTL b0 d N n L B lf od (kmap (.int .i64 0) N k) (kmap (.int .i64 1) N k)) (bZL b0 d (N + 1) (n + 1) (L + 4) (B + 4096) (lf ++ [[.int .i64 0, .int .i64 4096, .int .i64 3, .int .i64 0]]) (od ++ [[.int .i64 N]]) (kmap (.int .i64 0) (N + 1) (k + 1)) (kmap (.int .i64 1) (N + 1) (k + 1))) := by
 unfold bTL bZL
 refine .cons (by exact BW.refl) ?_
 refine .cons (by exact BW.gmap (by rw [kmap_succ, List.append_nil]; exact EWs.append (kmap_to _ _ _ _ (by omega)) (.cons (.bs (by omega) (by omega) (by omega)) .refl .nil))) ?_
 refine .cons (by exact BW.gmap (by rw [kmap_succ, List.append_assoc]; exact EWs.append (kmap_to _ _ _ _ (by omega)) (.cons (.bs (by omega) (by omega) (by omega)) .refl (.cons (.bs (by omega) (by omega) (by omega)) .refl .nil)))) ?_
 refine .cons (by exact BW.gapTo (l := od ++ [[.int .i64 N], [.bs .i64 (N + 1) 0 372 372]]) (RWs.append .refl (.cons (.cons (.bsI (by omega)) .nil) (.cons (.cons (.bs (by omega) (by omega) (by omega)) .nil) .nil))) (by simp) (by omega) (by omega) (by simp; omega)) ?_
 refine .cons (by exact BW.gapTo (l := lf ++ [[.int .i64 0, .int .i64 4096, .int .i64 3, .int .i64 0], [.int .i64 0, .int .i64 4096, .int .i64 1, .int .i64 0]]) .refl (by simp) (by omega) (by omega) (by simp; omega)) ?_
 refine .cons (by exact BW.fix (.cons .refl (.cons .refl (.cons (.bs (by omega) (by omega) (by omega)) (.cons (.bs (by omega) (by omega) (by omega)) (.cons .refl (.cons (.bs (by omega) (by omega) (by omega)) .refl))))))) ?_
 refine .cons (by exact BW.fix (.cons .refl (.cons .refl (.cons (.bs (by omega) (by omega) (by omega)) .refl)))) ?_
 exact .nil
theorem sTL_to (L L' : Int) (h : L' = L + 4) (h1 : 6 <= L') (h2 : L' <= 1486) : SWs (mkFr 55 ([7, 23, 24, 25].zip (sTL L))) (mkFr 55 ([7, 23, 24, 25].zip (sSL L'))) := SWs.mkFr _ _ (.cons .refl (.cons .refl (.cons .refl (.cons (.bs (by omega) (by omega) (by omega)) .nil))))
theorem sTL_toZ (L L' : Int) (h : L' = L + 4) (h1 : L' = 1490) : SWs (mkFr 55 ([7, 23, 24, 25].zip (sTL L))) (mkFr 55 ([7, 23, 24, 25].zip (sZL L'))) := SWs.mkFr _ _ (.cons .refl (.cons .refl (.cons .refl (.cons (.bs (by omega) (by omega) (by omega)) .nil))))
theorem stepL (hA : EnvOK Tryz.prog envA) (d : Dr) (k : Nat) (N n L B : Int) (lf od : List (List SV)) (h1 : N = k) (h0 : 1 <= N) (h2 : N <= 371) (hL : L = 4 * N + 2) {K : Post} {j : Nat} (hk : BRounds Tryz.prog [rowZ] livLoop j (mkFr 55 ([7, 23, 24, 25].zip (sTL L))) (bTL rowZ d N n L B lf od (kmap (.int .i64 0) N k) (kmap (.int .i64 1) N k)) K) :
  BRounds Tryz.prog [rowZ] livLoop (j + 4) (mkFr 55 ([7, 23, 24, 25].zip (sSL L))) (bSL rowZ d N n L B lf od (kmap (.int .i64 0) N k) (kmap (.int .i64 1) N k)) K := by
 obtain ⟨lg, ps, p, hg⟩ := gap_two k (by omega) (by omega)
 obtain ⟨g1, g2⟩ := hg N L h1 hL
 refine BRounds.base (HWk.cons g1 .nil) (BRounds.goes (Goes.weak SWs.refl (h' := bSL (gapN N L lg ps p) d N n L B lf od (kmap (.int .i64 0) N k) (kmap (.int .i64 1) N k)) ?_) ?_)
 ·unfold bSL; exact .cons g1 .refl
 ·refine roundL_go hA _ _ _ _ _ _ _ _ _ _ _ _ (kmap_in (by omega) (by decide) (by decide) (by decide)) (kmap_in (by omega) (by decide) (by decide) (by decide)) kmap_zero (kmap_in (by omega) (by decide) (by decide) (by decide)) ?_
  refine BRounds.base (HWk.cons g2 .nil) (BRounds.goes (Goes.weak SWs.refl (h' := bTL rowZ d N n L B lf od (kmap (.int .i64 0) N k) (kmap (.int .i64 1) N k)) ?_) hk)
  unfold bTL; exact .cons g2 .refl
theorem chainL (hA : EnvOK Tryz.prog envA) (d : Dr) {K : Post} {r : Nat} (hz : ∀ lf od : List (List SV), (lf.length : Int) = 372 -> (od.length : Int) = 371 -> BRounds Tryz.prog [rowZ] livLoop r (mkFr 55 ([7, 23, 24, 25].zip (sZL 1490))) (bZL rowZ d 372 371 1490 1523712 lf od (kmap (.int .i64 0) 372 372) (kmap (.int .i64 1) 372 372)) K) :
  ∀ (j k : Nat), k + j = 371 -> ∀ (N n L B : Int) (lf od : List (List SV)), N = k -> 1 <= N -> n = N - 1 -> L = 4 * N + 2 -> B = 4096 * N -> (lf.length : Int) = N -> (od.length : Int) = n -> BRounds Tryz.prog [rowZ] livLoop (r + 4 * (j + 1)) (mkFr 55 ([7, 23, 24, 25].zip (sSL L))) (bSL rowZ d N n L B lf od (kmap (.int .i64 0) N k) (kmap (.int .i64 1) N k)) K := by
 intro j
 induction j with
 | zero =>
  intro k hk N n L B lf od hN h0 hn hL hB kf ko
  have e0 : k = 371 := by omega
  subst e0
  have e1 : N = 371 := by omega
  subst e1
  have e2 : n = 370 := by omega
  subst e2
  have e3 : L = 1486 := by omega
  subst e3
  have e4 : B = 1519616 := by omega
  subst e4
  refine stepL hA d 371 _ _ _ _ _ _ hN h0 (by omega) hL ?_
  refine BRounds.goes (Goes.weak (sTL_toZ 1486 1490 (by omega) (by omega)) (weakZL rowZ d 371 371 370 1486 1519616 lf od (by omega) (by omega) (by omega) (by omega) (by omega) kf ko)) ?_
  exact hz _ _ (by simp; omega) (by simp; omega)
 | succ j ih =>
  intro k hk N n L B lf od hN h0 hn hL hB kf ko
  rw [show r + 4 * (j + 1 + 1) = r + 4 * (j + 1) + 4 by omega]
  refine stepL hA d k _ _ _ _ _ _ hN h0 (by omega) hL ?_
  refine BRounds.goes (Goes.weak (sTL_to L (L + 4) rfl (by omega) (by omega)) (weakSL rowZ d k N n L B lf od hN h0 (by omega) hn hB hL kf ko)) ?_
  exact ih (k + 1) (by omega) _ _ _ _ _ _ (by omega) (by omega) (by omega) (by omega) (by omega) (by simp; omega) (by simp; omega)
end Go.Proofs.YtbppedokdfmnoaaGreatDoor

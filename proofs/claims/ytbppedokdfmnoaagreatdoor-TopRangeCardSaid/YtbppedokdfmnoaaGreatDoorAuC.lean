/- Part of the executor and its soundness, or of what it is told of this seat's program. No statement of the seat is proved here. -/
import Derived.Test.YtbppedokdfmnoaaGreatDoorAu
import Derived.Test.YtbppedokdfmnoaaGreatDoorRe
set_option linter.unusedSimpArgs false
set_option linter.unusedVariables false
namespace Go.Proofs.YtbppedokdfmnoaaGreatDoor
open Go.Sx
noncomputable def hSC1 (b0 : Blk) (d : Dr) (N L M : Int) (fm : List (SV × SV)) : HW := hwT 9 ⟨⟨b0,
 .gmap fm [(.bs .i64 N 1 2 372, .int .i64 4096)],
 .mapB [] 0,
 .mapB [(.int .i64 0, (.agg [.int .i64 1, .int .i64 0], 0))] 1,
 .fix 257 [.mp 3],
 .mapB [] 0,
 .mapB [(.int .i64 0, (.agg [.int .i64 0, .int .i64 1, .bs .i64 M 0 2952069120 1095217643520], 0))] 1,
 .fix 254 [.int .i64 1099511627776, .mp 6, .mp 5, .bs .i64 M (-2952069120) 0 1092265574400, .int .i64 0],
 .fix 151 [.int .i64 1, .iv .i64 d.1 1 1048575 1 0, .iv .i64 d.2 2 1048576 1 0, .int .i64 0, .int .i64 0, .int .i64 0, .iv .i64 d.3 1 4 1 0, .iv .i64 d.4 4096 8096 1 0, .int .i64 1048576, .iv .i64 d.5 1 4 1 0, .iv .i64 d.6 1 64 1 0, .iv .i64 d.7 256 5000 1 0, .int .i64 512, .int .i64 1099511627776, .rs 2 [[.int .i64 6000, .int .i64 100], [.int .i64 54000, .int .i64 50]], .sl 0, .int .i64 1, .ptr 7 0, .ptr 4 0, .mp 2, .mp 1, .bs .i64 L (-1) 5 1485],
 .dead,
 .dead,
 .dead,
 .dead,
 .dead,
 .dead,
 .dead⟩,
 R16.rep .dead,
 R16.rep .dead,
 R16.rep .dead,
 R16.rep .dead,
 R16.rep .dead,
 R16.rep .dead,
 R16.rep .dead,
 R16.rep .dead,
 R16.rep .dead,
 R16.rep .dead,
 R16.rep .dead,
 R16.rep .dead,
 R16.rep .dead,
 R16.rep .dead,
 R16.rep .dead⟩
noncomputable def bSC1 (b0 : Blk) (d : Dr) (N L M : Int) (fm : List (SV × SV)) : Hp := [b0,
 .gmap fm [(.bs .i64 N 1 2 372, .int .i64 4096)],
 .mapB [] 0,
 .mapB [(.int .i64 0, (.agg [.int .i64 1, .int .i64 0], 0))] 1,
 .fix 257 [.mp 3],
 .mapB [] 0,
 .mapB [(.int .i64 0, (.agg [.int .i64 0, .int .i64 1, .bs .i64 M 0 2952069120 1095217643520], 0))] 1,
 .fix 254 [.int .i64 1099511627776, .mp 6, .mp 5, .bs .i64 M (-2952069120) 0 1092265574400, .int .i64 0],
 .fix 151 [.int .i64 1, .iv .i64 d.1 1 1048575 1 0, .iv .i64 d.2 2 1048576 1 0, .int .i64 0, .int .i64 0, .int .i64 0, .iv .i64 d.3 1 4 1 0, .iv .i64 d.4 4096 8096 1 0, .int .i64 1048576, .iv .i64 d.5 1 4 1 0, .iv .i64 d.6 1 64 1 0, .iv .i64 d.7 256 5000 1 0, .int .i64 512, .int .i64 1099511627776, .rs 2 [[.int .i64 6000, .int .i64 100], [.int .i64 54000, .int .i64 50]], .sl 0, .int .i64 1, .ptr 7 0, .ptr 4 0, .mp 2, .mp 1, .bs .i64 L (-1) 5 1485]]
theorem hSC1_view (b0 : Blk) (d : Dr) (N L M : Int) (fm : List (SV × SV)) : (hSC1 b0 d N L M fm).view = bSC1 b0 d N L M fm := by kernel_rfl
noncomputable def sSC1 (L : Int) : List SV := [.ptr 8 0, .sl 0, .int .i64 1491, .bs .i64 L 0 6 1486]
noncomputable def fSC1 (L : Int) : FW := ⟨⟨.any, .any, .any, .any, .any, .any, .any, .ptr 8 0, .any, .any, .any, .any, .any, .any, .any, .any⟩, ⟨.any, .any, .any, .any, .any, .any, .any, .any, .any, .any, .sl 0, .int .i64 1491, .bs .i64 L 0 6 1486, .any, .any, .any⟩, R16.rep .any, R16.rep .any, R16.rep .any, R16.rep .any, R16.rep .any, R16.rep .any, R16.rep .any, R16.rep .any, R16.rep .any, R16.rep .any, R16.rep .any, R16.rep .any, R16.rep .any, R16.rep .any⟩
theorem fSC1_view (L : Int) : viewF 70 (fSC1 L) = mkFr 70 ([7, 26, 27, 28].zip (sSC1 L)) := by kernel_rfl
noncomputable def hZC1 (b0 : Blk) (d : Dr) (N L M : Int) (fm : List (SV × SV)) : HW := hwT 9 ⟨⟨b0,
 .gmap fm [(.bs .i64 N 1 373 373, .int .i64 4096)],
 .mapB [] 0,
 .mapB [(.int .i64 0, (.agg [.int .i64 1, .int .i64 0], 0))] 1,
 .fix 257 [.mp 3],
 .mapB [] 0,
 .mapB [(.int .i64 0, (.agg [.int .i64 0, .int .i64 1, .bs .i64 M 0 1098169712640 1098169712640], 0))] 1,
 .fix 254 [.int .i64 1099511627776, .mp 6, .mp 5, .bs .i64 M (-2952069120) 1095217643520 1095217643520, .int .i64 0],
 .fix 151 [.int .i64 1, .iv .i64 d.1 1 1048575 1 0, .iv .i64 d.2 2 1048576 1 0, .int .i64 0, .int .i64 0, .int .i64 0, .iv .i64 d.3 1 4 1 0, .iv .i64 d.4 4096 8096 1 0, .int .i64 1048576, .iv .i64 d.5 1 4 1 0, .iv .i64 d.6 1 64 1 0, .iv .i64 d.7 256 5000 1 0, .int .i64 512, .int .i64 1099511627776, .rs 2 [[.int .i64 6000, .int .i64 100], [.int .i64 54000, .int .i64 50]], .sl 0, .int .i64 1, .ptr 7 0, .ptr 4 0, .mp 2, .mp 1, .bs .i64 L (-1) 1489 1489],
 .dead,
 .dead,
 .dead,
 .dead,
 .dead,
 .dead,
 .dead⟩,
 R16.rep .dead,
 R16.rep .dead,
 R16.rep .dead,
 R16.rep .dead,
 R16.rep .dead,
 R16.rep .dead,
 R16.rep .dead,
 R16.rep .dead,
 R16.rep .dead,
 R16.rep .dead,
 R16.rep .dead,
 R16.rep .dead,
 R16.rep .dead,
 R16.rep .dead,
 R16.rep .dead⟩
noncomputable def bZC1 (b0 : Blk) (d : Dr) (N L M : Int) (fm : List (SV × SV)) : Hp := [b0,
 .gmap fm [(.bs .i64 N 1 373 373, .int .i64 4096)],
 .mapB [] 0,
 .mapB [(.int .i64 0, (.agg [.int .i64 1, .int .i64 0], 0))] 1,
 .fix 257 [.mp 3],
 .mapB [] 0,
 .mapB [(.int .i64 0, (.agg [.int .i64 0, .int .i64 1, .bs .i64 M 0 1098169712640 1098169712640], 0))] 1,
 .fix 254 [.int .i64 1099511627776, .mp 6, .mp 5, .bs .i64 M (-2952069120) 1095217643520 1095217643520, .int .i64 0],
 .fix 151 [.int .i64 1, .iv .i64 d.1 1 1048575 1 0, .iv .i64 d.2 2 1048576 1 0, .int .i64 0, .int .i64 0, .int .i64 0, .iv .i64 d.3 1 4 1 0, .iv .i64 d.4 4096 8096 1 0, .int .i64 1048576, .iv .i64 d.5 1 4 1 0, .iv .i64 d.6 1 64 1 0, .iv .i64 d.7 256 5000 1 0, .int .i64 512, .int .i64 1099511627776, .rs 2 [[.int .i64 6000, .int .i64 100], [.int .i64 54000, .int .i64 50]], .sl 0, .int .i64 1, .ptr 7 0, .ptr 4 0, .mp 2, .mp 1, .bs .i64 L (-1) 1489 1489]]
theorem hZC1_view (b0 : Blk) (d : Dr) (N L M : Int) (fm : List (SV × SV)) : (hZC1 b0 d N L M fm).view = bZC1 b0 d N L M fm := by kernel_rfl
noncomputable def sZC1 (L : Int) : List SV := [.ptr 8 0, .sl 0, .int .i64 1491, .bs .i64 L 0 1490 1490]
noncomputable def fZC1 (L : Int) : FW := ⟨⟨.any, .any, .any, .any, .any, .any, .any, .ptr 8 0, .any, .any, .any, .any, .any, .any, .any, .any⟩, ⟨.any, .any, .any, .any, .any, .any, .any, .any, .any, .any, .sl 0, .int .i64 1491, .bs .i64 L 0 1490 1490, .any, .any, .any⟩, R16.rep .any, R16.rep .any, R16.rep .any, R16.rep .any, R16.rep .any, R16.rep .any, R16.rep .any, R16.rep .any, R16.rep .any, R16.rep .any, R16.rep .any, R16.rep .any, R16.rep .any, R16.rep .any⟩
theorem fZC1_view (L : Int) : viewF 70 (fZC1 L) = mkFr 70 ([7, 26, 27, 28].zip (sZC1 L)) := by kernel_rfl
end Go.Proofs.YtbppedokdfmnoaaGreatDoor

namespace Go.Proofs.YtbppedokdfmnoaaGreatDoor
open Go.Sx
noncomputable def hTC1 (b0 : Blk) (d : Dr) (N L M : Int) (fm : List (SV × SV)) : HW := hwT 9 ⟨⟨b0,
 .gmap fm [(.bs .i64 N 1 2 372, .int .i64 4096), (.bs .i64 N 2 3 373, .int .i64 4096)],
 .mapB [] 0,
 .mapB [(.int .i64 0, (.agg [.int .i64 1, .int .i64 0], 0))] 1,
 .fix 257 [.mp 3],
 .mapB [] 0,
 .mapB [(.int .i64 0, (.agg [.int .i64 0, .int .i64 1, .bs .i64 M 2952069120 5904138240 1098169712640], 0))] 1,
 .fix 254 [.int .i64 1099511627776, .mp 6, .mp 5, .bs .i64 M 0 2952069120 1095217643520, .int .i64 0],
 .fix 151 [.int .i64 1, .iv .i64 d.1 1 1048575 1 0, .iv .i64 d.2 2 1048576 1 0, .int .i64 0, .int .i64 0, .int .i64 0, .iv .i64 d.3 1 4 1 0, .iv .i64 d.4 4096 8096 1 0, .int .i64 1048576, .iv .i64 d.5 1 4 1 0, .iv .i64 d.6 1 64 1 0, .iv .i64 d.7 256 5000 1 0, .int .i64 512, .int .i64 1099511627776, .rs 2 [[.int .i64 6000, .int .i64 100], [.int .i64 54000, .int .i64 50]], .sl 0, .int .i64 1, .ptr 7 0, .ptr 4 0, .mp 2, .mp 1, .bs .i64 L 3 9 1489],
 .dead,
 .dead,
 .dead,
 .dead,
 .dead,
 .dead,
 .dead⟩,
 R16.rep .dead,
 R16.rep .dead,
 R16.rep .dead,
 R16.rep .dead,
 R16.rep .dead,
 R16.rep .dead,
 R16.rep .dead,
 R16.rep .dead,
 R16.rep .dead,
 R16.rep .dead,
 R16.rep .dead,
 R16.rep .dead,
 R16.rep .dead,
 R16.rep .dead,
 R16.rep .dead⟩
noncomputable def bTC1 (b0 : Blk) (d : Dr) (N L M : Int) (fm : List (SV × SV)) : Hp := [b0,
 .gmap fm [(.bs .i64 N 1 2 372, .int .i64 4096), (.bs .i64 N 2 3 373, .int .i64 4096)],
 .mapB [] 0,
 .mapB [(.int .i64 0, (.agg [.int .i64 1, .int .i64 0], 0))] 1,
 .fix 257 [.mp 3],
 .mapB [] 0,
 .mapB [(.int .i64 0, (.agg [.int .i64 0, .int .i64 1, .bs .i64 M 2952069120 5904138240 1098169712640], 0))] 1,
 .fix 254 [.int .i64 1099511627776, .mp 6, .mp 5, .bs .i64 M 0 2952069120 1095217643520, .int .i64 0],
 .fix 151 [.int .i64 1, .iv .i64 d.1 1 1048575 1 0, .iv .i64 d.2 2 1048576 1 0, .int .i64 0, .int .i64 0, .int .i64 0, .iv .i64 d.3 1 4 1 0, .iv .i64 d.4 4096 8096 1 0, .int .i64 1048576, .iv .i64 d.5 1 4 1 0, .iv .i64 d.6 1 64 1 0, .iv .i64 d.7 256 5000 1 0, .int .i64 512, .int .i64 1099511627776, .rs 2 [[.int .i64 6000, .int .i64 100], [.int .i64 54000, .int .i64 50]], .sl 0, .int .i64 1, .ptr 7 0, .ptr 4 0, .mp 2, .mp 1, .bs .i64 L 3 9 1489]]
theorem hTC1_view (b0 : Blk) (d : Dr) (N L M : Int) (fm : List (SV × SV)) : (hTC1 b0 d N L M fm).view = bTC1 b0 d N L M fm := by kernel_rfl
noncomputable def sTC1 (L : Int) : List SV := [.ptr 8 0, .sl 0, .int .i64 1491, .bs .i64 L 4 10 1490]
def roundQC1 (d : Dr) (N L M : Int) (fm : List (SV × SV)) (p : List SV) (lg ps : List (List SV)) : Prop := timesV Tryz.prog envA (run envA) 1 70 choLoop 4 (fSC1 L) (hSC1 (gapN N L lg ps p) d N L M fm) [] fun _ F' H' wr => tidyV 70 1 (gZ (gapN N L lg ps p)) [7, 26, 27, 28] F' H' wr fun ss H'' => ss = sTC1 L /\ H'' = hTC1 (gapN N L lg ps p) d N L M fm
def roundAC1 (d : Dr) (N L M : Int) (fm : List (SV × SV)) (p : List SV) (lg ps : List (List SV)) : Prop := L = L /\
 L = L /\
 notIn (.bs .i64 N 2 3 373) fm /\
 N = N /\
 L = L /\
 L = L /\
 L = L /\
 L = L /\
 L + 2 < L + ((([[.bs .i64 N 0 1 371, .int .i64 1, .int .i64 0, .bs .i64 N 2 3 373, .int .i64 0, .int .i64 4096], [.bs .i64 N 0 1 371, .int .i64 5, .int .i64 0, .int .i64 0, .int .i64 1, .int .i64 0], [.bs .i64 N 0 1 371, .int .i64 3, .int .i64 0, .bs .i64 N 1 2 372, .int .i64 0, .int .i64 1], [.bs .i64 N 0 1 371, .int .i64 4, .int .i64 0, .bs .i64 N 1 2 372, .int .i64 0, .int .i64 0]] : List (List SV)).length : Nat) + (((p :: ps).length : Nat) : Int)) /\
 L = L /\
 L = L /\
 L + 2 < L + ((([[.bs .i64 N 0 1 371, .int .i64 1, .int .i64 0, .bs .i64 N 2 3 373, .int .i64 0, .int .i64 4096], [.bs .i64 N 0 1 371, .int .i64 5, .int .i64 0, .int .i64 0, .int .i64 1, .int .i64 0], [.bs .i64 N 0 1 371, .int .i64 3, .int .i64 0, .bs .i64 N 1 2 372, .int .i64 0, .int .i64 1], [.bs .i64 N 0 1 371, .int .i64 4, .int .i64 0, .bs .i64 N 1 2 372, .int .i64 0, .int .i64 0]] : List (List SV)).length : Nat) + (((p :: ps).length : Nat) : Int)) /\
 L = L /\
 L = L /\
 L = L /\
 L = L /\
 L = L /\
 L = L /\
 notIn (.bs .i64 N 1 2 372) fm /\
 N = N /\
 M = M /\
 M = M /\
 M = M /\
 M = M /\
 M = M /\
 L = L /\
 L = L /\
 L = L /\
 L = L /\
 L = L /\
 L = L /\
 sTC1 L = sTC1 L /\
 hTC1 (gapN N L lg ps p) d N L M fm = hTC1 (gapN N L lg ps p) d N L M fm
theorem roundC1 (d : Dr) (N L M : Int) (fm : List (SV × SV)) (p : List SV) (lg ps : List (List SV)) : roundQC1 d N L M fm p lg ps = roundAC1 d N L M fm p lg ps := by kernel_rfl
theorem roundC1_true (d : Dr) (N L M : Int) (fm : List (SV × SV)) (p : List SV) (lg ps : List (List SV)) (q1fm : notIn (.bs .i64 N 1 2 372) fm) (q2fm : notIn (.bs .i64 N 2 3 373) fm) : roundAC1 d N L M fm p lg ps := by
 have hlt : L + 2 < L + ((([[.bs .i64 N 0 1 371, .int .i64 1, .int .i64 0, .bs .i64 N 2 3 373, .int .i64 0, .int .i64 4096], [.bs .i64 N 0 1 371, .int .i64 5, .int .i64 0, .int .i64 0, .int .i64 1, .int .i64 0], [.bs .i64 N 0 1 371, .int .i64 3, .int .i64 0, .bs .i64 N 1 2 372, .int .i64 0, .int .i64 1], [.bs .i64 N 0 1 371, .int .i64 4, .int .i64 0, .bs .i64 N 1 2 372, .int .i64 0, .int .i64 0]] : List (List SV)).length : Nat) + (((p :: ps).length : Nat) : Int)) := by
  simp only [List.length_cons, List.length_nil]; omega
 exact ⟨rfl, rfl, q2fm, rfl, rfl, rfl, rfl, rfl, hlt, rfl, rfl, hlt, rfl, rfl, rfl, rfl, rfl, rfl, q1fm, rfl, rfl, rfl, rfl, rfl, rfl, rfl, rfl, rfl, rfl, rfl, rfl, rfl, rfl⟩
theorem roundC1_go (hA : EnvOK Tryz.prog envA) (d : Dr) (N L M : Int) (fm : List (SV × SV)) (p : List SV) (lg ps : List (List SV)) (q1fm : notIn (.bs .i64 N 1 2 372) fm) (q2fm : notIn (.bs .i64 N 2 3 373) fm) {K : Post} {j : Nat} (hk : BRounds Tryz.prog [(gapN N L lg ps p)] choLoop j (mkFr 70 ([7, 26, 27, 28].zip (sTC1 L))) (bTC1 (gapN N L lg ps p) d N L M fm) K) :
  BRounds Tryz.prog [(gapN N L lg ps p)] choLoop (j + 4) (mkFr 70 ([7, 26, 27, 28].zip (sSC1 L))) (bSC1 (gapN N L lg ps p) d N L M fm) K := by
 have hq := roundC1 d N L M fm p lg ps
 unfold roundQC1 at hq
 have h9 := roundC1_true d N L M fm p lg ps q1fm q2fm
 rw [<- hTC1_view] at hk
 rw [<- fSC1_view, <- hSC1_view]
 rw [<- gZ_view] at hk ⊢
 refine BRounds.runs hA hq h9 (by decide) (by rw [gZ_view]; rfl) (by rw [hSC1_view, bSC1]; exact Nat.le_add_left 1 _) (fun i hi => ?_) hk
 have : i = 0 := by omega
 subst this
 rw [hSC1_view, gZ_view, bSC1]
 rfl
set_option maxRecDepth 100000 in
theorem weakSC1 (b0 : Blk) (d : Dr) (k : Nat) (N L M : Int) (h1 : N = k) (h0 : 1 <= N) (h2 : N <= 370) (hM : M = 2952069120 * N) (hL : L = 4 * N + 2) : HWk (bTC1 b0 d N L M (kmap (.int .i64 4096) N k)) (bSC1 b0 d (N + 1) (L + 4) (M + 2952069120) (kmap (.int .i64 4096) (N + 1) (k + 1))) := by
 unfold bTC1 bSC1
 refine .cons (by exact BW.refl) ?_
 refine .cons (by exact BW.gmap (by rw [kmap_succ, List.append_assoc]; exact EWs.append (kmap_to _ _ _ _ (by omega)) (.cons (.bs (by omega) (by omega) (by omega)) .refl (.cons (.bs (by omega) (by omega) (by omega)) .refl .nil)))) ?_
 refine .cons (by exact BW.refl) ?_
 refine .cons (by exact BW.refl) ?_
 refine .cons (by exact BW.refl) ?_
 refine .cons (by exact BW.refl) ?_
 refine .cons (by exact BW.mapB1 .refl (.agg (.cons .refl (.cons .refl (.cons (.bs (by omega) (by omega) (by omega)) .nil))))) ?_
 refine .cons (by exact BW.fix (.cons .refl (.cons .refl (.cons .refl (.cons (.bs (by omega) (by omega) (by omega)) .refl))))) ?_
 refine .cons (by exact BW.fix (.cons .refl (.cons .refl (.cons .refl (.cons .refl (.cons .refl (.cons .refl (.cons .refl (.cons .refl (.cons .refl (.cons .refl (.cons .refl (.cons .refl (.cons .refl (.cons .refl (.cons .refl (.cons .refl (.cons .refl (.cons .refl (.cons .refl (.cons .refl (.cons .refl (.cons (.bs (by omega) (by omega) (by omega)) .nil))))))))))))))))))))))) ?_
 exact .nil
set_option maxRecDepth 100000 in
theorem weakZC1 (b0 : Blk) (d : Dr) (k : Nat) (N L M : Int) (h1 : N = k) (h2 : N = 371) (hM : M = 2952069120 * N) (hL : L = 4 * N + 2) : HWk (bTC1 b0 d N L M (kmap (.int .i64 4096) N k)) (bZC1 b0 d (N + 1) (L + 4) (M + 2952069120) (kmap (.int .i64 4096) (N + 1) (k + 1))) := by
 unfold bTC1 bZC1
 refine .cons (by exact BW.refl) ?_
 refine .cons (by exact BW.gmap (by rw [kmap_succ, List.append_assoc]; exact EWs.append (kmap_to _ _ _ _ (by omega)) (.cons (.bs (by omega) (by omega) (by omega)) .refl (.cons (.bs (by omega) (by omega) (by omega)) .refl .nil)))) ?_
 refine .cons (by exact BW.refl) ?_
 refine .cons (by exact BW.refl) ?_
 refine .cons (by exact BW.refl) ?_
 refine .cons (by exact BW.refl) ?_
 refine .cons (by exact BW.mapB1 .refl (.agg (.cons .refl (.cons .refl (.cons (.bs (by omega) (by omega) (by omega)) .nil))))) ?_
 refine .cons (by exact BW.fix (.cons .refl (.cons .refl (.cons .refl (.cons (.bs (by omega) (by omega) (by omega)) .refl))))) ?_
 refine .cons (by exact BW.fix (.cons .refl (.cons .refl (.cons .refl (.cons .refl (.cons .refl (.cons .refl (.cons .refl (.cons .refl (.cons .refl (.cons .refl (.cons .refl (.cons .refl (.cons .refl (.cons .refl (.cons .refl (.cons .refl (.cons .refl (.cons .refl (.cons .refl (.cons .refl (.cons .refl (.cons (.bs (by omega) (by omega) (by omega)) .nil))))))))))))))))))))))) ?_
 exact .nil
theorem sTC1_to (L L' : Int) (h : L' = L + 4) (h1 : 6 <= L') (h2 : L' <= 1486) : SWs (mkFr 70 ([7, 26, 27, 28].zip (sTC1 L))) (mkFr 70 ([7, 26, 27, 28].zip (sSC1 L'))) := SWs.mkFr _ _ (.cons .refl (.cons .refl (.cons .refl (.cons (.bs (by omega) (by omega) (by omega)) .nil))))
theorem sTC1_toZ (L L' : Int) (h : L' = L + 4) (h1 : L' = 1490) : SWs (mkFr 70 ([7, 26, 27, 28].zip (sTC1 L))) (mkFr 70 ([7, 26, 27, 28].zip (sZC1 L'))) := SWs.mkFr _ _ (.cons .refl (.cons .refl (.cons .refl (.cons (.bs (by omega) (by omega) (by omega)) .nil))))
theorem stepC1 (hA : EnvOK Tryz.prog envA) (d : Dr) (k : Nat) (N L M : Int) (h1 : N = k) (h0 : 1 <= N) (h2 : N <= 371) (hL : L = 4 * N + 2) {K : Post} {j : Nat} (hk : BRounds Tryz.prog [rowZ] choLoop j (mkFr 70 ([7, 26, 27, 28].zip (sTC1 L))) (bTC1 rowZ d N L M (kmap (.int .i64 4096) N k)) K) :
  BRounds Tryz.prog [rowZ] choLoop (j + 4) (mkFr 70 ([7, 26, 27, 28].zip (sSC1 L))) (bSC1 rowZ d N L M (kmap (.int .i64 4096) N k)) K := by
 obtain ⟨lg, ps, p, hg⟩ := gap_two k (by omega) (by omega)
 obtain ⟨g1, g2⟩ := hg N L h1 hL
 refine BRounds.base (HWk.cons g1 .nil) (BRounds.goes (Goes.weak SWs.refl (h' := bSC1 (gapN N L lg ps p) d N L M (kmap (.int .i64 4096) N k)) ?_) ?_)
 ·unfold bSC1; exact .cons g1 .refl
 ·refine roundC1_go hA _ _ _ _ _ _ _ _ (kmap_in (by omega) (by decide) (by decide) (by decide)) (kmap_in (by omega) (by decide) (by decide) (by decide)) ?_
  refine BRounds.base (HWk.cons g2 .nil) (BRounds.goes (Goes.weak SWs.refl (h' := bTC1 rowZ d N L M (kmap (.int .i64 4096) N k)) ?_) hk)
  unfold bTC1; exact .cons g2 .refl
theorem chainC1 (hA : EnvOK Tryz.prog envA) (d : Dr) {K : Post} {r : Nat} (hz : BRounds Tryz.prog [rowZ] choLoop r (mkFr 70 ([7, 26, 27, 28].zip (sZC1 1490))) (bZC1 rowZ d 372 1490 1098169712640 (kmap (.int .i64 4096) 372 372)) K) :
  ∀ (j k : Nat), k + j = 371 -> ∀ (N L M : Int), N = k -> 1 <= N -> L = 4 * N + 2 -> M = 2952069120 * N -> BRounds Tryz.prog [rowZ] choLoop (r + 4 * (j + 1)) (mkFr 70 ([7, 26, 27, 28].zip (sSC1 L))) (bSC1 rowZ d N L M (kmap (.int .i64 4096) N k)) K := by
 intro j
 induction j with
 | zero =>
  intro k hk N L M hN h0 hL hM
  have e0 : k = 371 := by omega
  subst e0
  have e1 : N = 371 := by omega
  subst e1
  have e3 : L = 1486 := by omega
  subst e3
  have e4 : M = 1095217643520 := by omega
  subst e4
  refine stepC1 hA d 371 _ _ _ hN h0 (by omega) hL ?_
  exact BRounds.goes (Goes.weak (sTC1_toZ 1486 1490 (by omega) (by omega)) (weakZC1 rowZ d 371 371 1486 1095217643520 (by omega) (by omega) (by omega) (by omega))) hz
 | succ j ih =>
  intro k hk N L M hN h0 hL hM
  rw [show r + 4 * (j + 1 + 1) = r + 4 * (j + 1) + 4 by omega]
  refine stepC1 hA d k _ _ _ hN h0 (by omega) hL ?_
  refine BRounds.goes (Goes.weak (sTC1_to L (L + 4) rfl (by omega) (by omega)) (weakSC1 rowZ d k N L M hN h0 (by omega) hM hL)) ?_
  exact ih (k + 1) (by omega) _ _ _ (by omega) (by omega) (by omega) (by omega)
end Go.Proofs.YtbppedokdfmnoaaGreatDoor

namespace Go.Proofs.YtbppedokdfmnoaaGreatDoor
open Go.Sx
noncomputable def hSC2 (b0 : Blk) (d : Dr) (N L M : Int) (fm : List (SV × SV)) : HW := hwT 9 ⟨⟨b0,
 .gmap fm [(.bs .i64 N 1 2 372, .int .i64 4096)],
 .mapB [] 0,
 .mapB [(.int .i64 0, (.agg [.int .i64 1, .int .i64 0], 0))] 1,
 .fix 257 [.mp 3],
 .mapB [] 0,
 .mapB [(.int .i64 0, (.agg [.int .i64 0, .int .i64 1, .bs .i64 M 0 2952069120 1095217643520], 0))] 1,
 .fix 254 [.int .i64 1099511627776, .mp 6, .mp 5, .bs .i64 M (-2952069120) 0 1092265574400, .int .i64 0],
 .fix 151 [.int .i64 2, .iv .i64 d.1 1 1048575 1 0, .iv .i64 d.2 2 1048576 1 0, .int .i64 0, .int .i64 0, .int .i64 0, .iv .i64 d.3 1 4 1 0, .iv .i64 d.4 4096 8096 1 0, .int .i64 1048576, .iv .i64 d.5 1 4 1 0, .iv .i64 d.6 1 64 1 0, .iv .i64 d.7 256 5000 1 0, .int .i64 512, .int .i64 1099511627776, .rs 2 [[.int .i64 6000, .int .i64 100], [.int .i64 54000, .int .i64 50]], .sl 0, .int .i64 2, .ptr 7 0, .ptr 4 0, .mp 2, .mp 1, .bs .i64 L (-1) 5 1485],
 .dead,
 .dead,
 .dead,
 .dead,
 .dead,
 .dead,
 .dead⟩,
 R16.rep .dead,
 R16.rep .dead,
 R16.rep .dead,
 R16.rep .dead,
 R16.rep .dead,
 R16.rep .dead,
 R16.rep .dead,
 R16.rep .dead,
 R16.rep .dead,
 R16.rep .dead,
 R16.rep .dead,
 R16.rep .dead,
 R16.rep .dead,
 R16.rep .dead,
 R16.rep .dead⟩
noncomputable def bSC2 (b0 : Blk) (d : Dr) (N L M : Int) (fm : List (SV × SV)) : Hp := [b0,
 .gmap fm [(.bs .i64 N 1 2 372, .int .i64 4096)],
 .mapB [] 0,
 .mapB [(.int .i64 0, (.agg [.int .i64 1, .int .i64 0], 0))] 1,
 .fix 257 [.mp 3],
 .mapB [] 0,
 .mapB [(.int .i64 0, (.agg [.int .i64 0, .int .i64 1, .bs .i64 M 0 2952069120 1095217643520], 0))] 1,
 .fix 254 [.int .i64 1099511627776, .mp 6, .mp 5, .bs .i64 M (-2952069120) 0 1092265574400, .int .i64 0],
 .fix 151 [.int .i64 2, .iv .i64 d.1 1 1048575 1 0, .iv .i64 d.2 2 1048576 1 0, .int .i64 0, .int .i64 0, .int .i64 0, .iv .i64 d.3 1 4 1 0, .iv .i64 d.4 4096 8096 1 0, .int .i64 1048576, .iv .i64 d.5 1 4 1 0, .iv .i64 d.6 1 64 1 0, .iv .i64 d.7 256 5000 1 0, .int .i64 512, .int .i64 1099511627776, .rs 2 [[.int .i64 6000, .int .i64 100], [.int .i64 54000, .int .i64 50]], .sl 0, .int .i64 2, .ptr 7 0, .ptr 4 0, .mp 2, .mp 1, .bs .i64 L (-1) 5 1485]]
theorem hSC2_view (b0 : Blk) (d : Dr) (N L M : Int) (fm : List (SV × SV)) : (hSC2 b0 d N L M fm).view = bSC2 b0 d N L M fm := by kernel_rfl
noncomputable def sSC2 (L : Int) : List SV := [.ptr 8 0, .sl 0, .int .i64 1491, .bs .i64 L 0 6 1486]
noncomputable def fSC2 (L : Int) : FW := ⟨⟨.any, .any, .any, .any, .any, .any, .any, .ptr 8 0, .any, .any, .any, .any, .any, .any, .any, .any⟩, ⟨.any, .any, .any, .any, .any, .any, .any, .any, .any, .any, .sl 0, .int .i64 1491, .bs .i64 L 0 6 1486, .any, .any, .any⟩, R16.rep .any, R16.rep .any, R16.rep .any, R16.rep .any, R16.rep .any, R16.rep .any, R16.rep .any, R16.rep .any, R16.rep .any, R16.rep .any, R16.rep .any, R16.rep .any, R16.rep .any, R16.rep .any⟩
theorem fSC2_view (L : Int) : viewF 70 (fSC2 L) = mkFr 70 ([7, 26, 27, 28].zip (sSC2 L)) := by kernel_rfl
noncomputable def hZC2 (b0 : Blk) (d : Dr) (N L M : Int) (fm : List (SV × SV)) : HW := hwT 9 ⟨⟨b0,
 .gmap fm [(.bs .i64 N 1 373 373, .int .i64 4096)],
 .mapB [] 0,
 .mapB [(.int .i64 0, (.agg [.int .i64 1, .int .i64 0], 0))] 1,
 .fix 257 [.mp 3],
 .mapB [] 0,
 .mapB [(.int .i64 0, (.agg [.int .i64 0, .int .i64 1, .bs .i64 M 0 1098169712640 1098169712640], 0))] 1,
 .fix 254 [.int .i64 1099511627776, .mp 6, .mp 5, .bs .i64 M (-2952069120) 1095217643520 1095217643520, .int .i64 0],
 .fix 151 [.int .i64 2, .iv .i64 d.1 1 1048575 1 0, .iv .i64 d.2 2 1048576 1 0, .int .i64 0, .int .i64 0, .int .i64 0, .iv .i64 d.3 1 4 1 0, .iv .i64 d.4 4096 8096 1 0, .int .i64 1048576, .iv .i64 d.5 1 4 1 0, .iv .i64 d.6 1 64 1 0, .iv .i64 d.7 256 5000 1 0, .int .i64 512, .int .i64 1099511627776, .rs 2 [[.int .i64 6000, .int .i64 100], [.int .i64 54000, .int .i64 50]], .sl 0, .int .i64 2, .ptr 7 0, .ptr 4 0, .mp 2, .mp 1, .bs .i64 L (-1) 1489 1489],
 .dead,
 .dead,
 .dead,
 .dead,
 .dead,
 .dead,
 .dead⟩,
 R16.rep .dead,
 R16.rep .dead,
 R16.rep .dead,
 R16.rep .dead,
 R16.rep .dead,
 R16.rep .dead,
 R16.rep .dead,
 R16.rep .dead,
 R16.rep .dead,
 R16.rep .dead,
 R16.rep .dead,
 R16.rep .dead,
 R16.rep .dead,
 R16.rep .dead,
 R16.rep .dead⟩
noncomputable def bZC2 (b0 : Blk) (d : Dr) (N L M : Int) (fm : List (SV × SV)) : Hp := [b0,
 .gmap fm [(.bs .i64 N 1 373 373, .int .i64 4096)],
 .mapB [] 0,
 .mapB [(.int .i64 0, (.agg [.int .i64 1, .int .i64 0], 0))] 1,
 .fix 257 [.mp 3],
 .mapB [] 0,
 .mapB [(.int .i64 0, (.agg [.int .i64 0, .int .i64 1, .bs .i64 M 0 1098169712640 1098169712640], 0))] 1,
 .fix 254 [.int .i64 1099511627776, .mp 6, .mp 5, .bs .i64 M (-2952069120) 1095217643520 1095217643520, .int .i64 0],
 .fix 151 [.int .i64 2, .iv .i64 d.1 1 1048575 1 0, .iv .i64 d.2 2 1048576 1 0, .int .i64 0, .int .i64 0, .int .i64 0, .iv .i64 d.3 1 4 1 0, .iv .i64 d.4 4096 8096 1 0, .int .i64 1048576, .iv .i64 d.5 1 4 1 0, .iv .i64 d.6 1 64 1 0, .iv .i64 d.7 256 5000 1 0, .int .i64 512, .int .i64 1099511627776, .rs 2 [[.int .i64 6000, .int .i64 100], [.int .i64 54000, .int .i64 50]], .sl 0, .int .i64 2, .ptr 7 0, .ptr 4 0, .mp 2, .mp 1, .bs .i64 L (-1) 1489 1489]]
theorem hZC2_view (b0 : Blk) (d : Dr) (N L M : Int) (fm : List (SV × SV)) : (hZC2 b0 d N L M fm).view = bZC2 b0 d N L M fm := by kernel_rfl
noncomputable def sZC2 (L : Int) : List SV := [.ptr 8 0, .sl 0, .int .i64 1491, .bs .i64 L 0 1490 1490]
noncomputable def fZC2 (L : Int) : FW := ⟨⟨.any, .any, .any, .any, .any, .any, .any, .ptr 8 0, .any, .any, .any, .any, .any, .any, .any, .any⟩, ⟨.any, .any, .any, .any, .any, .any, .any, .any, .any, .any, .sl 0, .int .i64 1491, .bs .i64 L 0 1490 1490, .any, .any, .any⟩, R16.rep .any, R16.rep .any, R16.rep .any, R16.rep .any, R16.rep .any, R16.rep .any, R16.rep .any, R16.rep .any, R16.rep .any, R16.rep .any, R16.rep .any, R16.rep .any, R16.rep .any, R16.rep .any⟩
theorem fZC2_view (L : Int) : viewF 70 (fZC2 L) = mkFr 70 ([7, 26, 27, 28].zip (sZC2 L)) := by kernel_rfl
end Go.Proofs.YtbppedokdfmnoaaGreatDoor

namespace Go.Proofs.YtbppedokdfmnoaaGreatDoor
open Go.Sx
noncomputable def hTC2 (b0 : Blk) (d : Dr) (N L M : Int) (fm : List (SV × SV)) : HW := hwT 9 ⟨⟨b0,
 .gmap fm [(.bs .i64 N 1 2 372, .int .i64 4096), (.bs .i64 N 2 3 373, .int .i64 4096)],
 .mapB [] 0,
 .mapB [(.int .i64 0, (.agg [.int .i64 1, .int .i64 0], 0))] 1,
 .fix 257 [.mp 3],
 .mapB [] 0,
 .mapB [(.int .i64 0, (.agg [.int .i64 0, .int .i64 1, .bs .i64 M 2952069120 5904138240 1098169712640], 0))] 1,
 .fix 254 [.int .i64 1099511627776, .mp 6, .mp 5, .bs .i64 M 0 2952069120 1095217643520, .int .i64 0],
 .fix 151 [.int .i64 2, .iv .i64 d.1 1 1048575 1 0, .iv .i64 d.2 2 1048576 1 0, .int .i64 0, .int .i64 0, .int .i64 0, .iv .i64 d.3 1 4 1 0, .iv .i64 d.4 4096 8096 1 0, .int .i64 1048576, .iv .i64 d.5 1 4 1 0, .iv .i64 d.6 1 64 1 0, .iv .i64 d.7 256 5000 1 0, .int .i64 512, .int .i64 1099511627776, .rs 2 [[.int .i64 6000, .int .i64 100], [.int .i64 54000, .int .i64 50]], .sl 0, .int .i64 2, .ptr 7 0, .ptr 4 0, .mp 2, .mp 1, .bs .i64 L 3 9 1489],
 .dead,
 .dead,
 .dead,
 .dead,
 .dead,
 .dead,
 .dead⟩,
 R16.rep .dead,
 R16.rep .dead,
 R16.rep .dead,
 R16.rep .dead,
 R16.rep .dead,
 R16.rep .dead,
 R16.rep .dead,
 R16.rep .dead,
 R16.rep .dead,
 R16.rep .dead,
 R16.rep .dead,
 R16.rep .dead,
 R16.rep .dead,
 R16.rep .dead,
 R16.rep .dead⟩
noncomputable def bTC2 (b0 : Blk) (d : Dr) (N L M : Int) (fm : List (SV × SV)) : Hp := [b0,
 .gmap fm [(.bs .i64 N 1 2 372, .int .i64 4096), (.bs .i64 N 2 3 373, .int .i64 4096)],
 .mapB [] 0,
 .mapB [(.int .i64 0, (.agg [.int .i64 1, .int .i64 0], 0))] 1,
 .fix 257 [.mp 3],
 .mapB [] 0,
 .mapB [(.int .i64 0, (.agg [.int .i64 0, .int .i64 1, .bs .i64 M 2952069120 5904138240 1098169712640], 0))] 1,
 .fix 254 [.int .i64 1099511627776, .mp 6, .mp 5, .bs .i64 M 0 2952069120 1095217643520, .int .i64 0],
 .fix 151 [.int .i64 2, .iv .i64 d.1 1 1048575 1 0, .iv .i64 d.2 2 1048576 1 0, .int .i64 0, .int .i64 0, .int .i64 0, .iv .i64 d.3 1 4 1 0, .iv .i64 d.4 4096 8096 1 0, .int .i64 1048576, .iv .i64 d.5 1 4 1 0, .iv .i64 d.6 1 64 1 0, .iv .i64 d.7 256 5000 1 0, .int .i64 512, .int .i64 1099511627776, .rs 2 [[.int .i64 6000, .int .i64 100], [.int .i64 54000, .int .i64 50]], .sl 0, .int .i64 2, .ptr 7 0, .ptr 4 0, .mp 2, .mp 1, .bs .i64 L 3 9 1489]]
theorem hTC2_view (b0 : Blk) (d : Dr) (N L M : Int) (fm : List (SV × SV)) : (hTC2 b0 d N L M fm).view = bTC2 b0 d N L M fm := by kernel_rfl
noncomputable def sTC2 (L : Int) : List SV := [.ptr 8 0, .sl 0, .int .i64 1491, .bs .i64 L 4 10 1490]
def roundQC2 (d : Dr) (N L M : Int) (fm : List (SV × SV)) (p : List SV) (lg ps : List (List SV)) : Prop := timesV Tryz.prog envA (run envA) 1 70 choLoop 4 (fSC2 L) (hSC2 (gapN N L lg ps p) d N L M fm) [] fun _ F' H' wr => tidyV 70 1 (gZ (gapN N L lg ps p)) [7, 26, 27, 28] F' H' wr fun ss H'' => ss = sTC2 L /\ H'' = hTC2 (gapN N L lg ps p) d N L M fm
def roundAC2 (d : Dr) (N L M : Int) (fm : List (SV × SV)) (p : List SV) (lg ps : List (List SV)) : Prop := L = L /\
 L = L /\
 notIn (.bs .i64 N 2 3 373) fm /\
 N = N /\
 L = L /\
 L = L /\
 L = L /\
 L = L /\
 L + 2 < L + ((([[.bs .i64 N 0 1 371, .int .i64 1, .int .i64 0, .bs .i64 N 2 3 373, .int .i64 0, .int .i64 4096], [.bs .i64 N 0 1 371, .int .i64 5, .int .i64 0, .int .i64 0, .int .i64 1, .int .i64 0], [.bs .i64 N 0 1 371, .int .i64 3, .int .i64 0, .bs .i64 N 1 2 372, .int .i64 0, .int .i64 1], [.bs .i64 N 0 1 371, .int .i64 4, .int .i64 0, .bs .i64 N 1 2 372, .int .i64 0, .int .i64 0]] : List (List SV)).length : Nat) + (((p :: ps).length : Nat) : Int)) /\
 L = L /\
 L = L /\
 L + 2 < L + ((([[.bs .i64 N 0 1 371, .int .i64 1, .int .i64 0, .bs .i64 N 2 3 373, .int .i64 0, .int .i64 4096], [.bs .i64 N 0 1 371, .int .i64 5, .int .i64 0, .int .i64 0, .int .i64 1, .int .i64 0], [.bs .i64 N 0 1 371, .int .i64 3, .int .i64 0, .bs .i64 N 1 2 372, .int .i64 0, .int .i64 1], [.bs .i64 N 0 1 371, .int .i64 4, .int .i64 0, .bs .i64 N 1 2 372, .int .i64 0, .int .i64 0]] : List (List SV)).length : Nat) + (((p :: ps).length : Nat) : Int)) /\
 L = L /\
 L = L /\
 L = L /\
 L = L /\
 L = L /\
 L = L /\
 notIn (.bs .i64 N 1 2 372) fm /\
 N = N /\
 M = M /\
 M = M /\
 M = M /\
 M = M /\
 L = L /\
 L = L /\
 L = L /\
 L = L /\
 L = L /\
 L = L /\
 sTC2 L = sTC2 L /\
 hTC2 (gapN N L lg ps p) d N L M fm = hTC2 (gapN N L lg ps p) d N L M fm
theorem roundC2 (d : Dr) (N L M : Int) (fm : List (SV × SV)) (p : List SV) (lg ps : List (List SV)) : roundQC2 d N L M fm p lg ps = roundAC2 d N L M fm p lg ps := by kernel_rfl
theorem roundC2_true (d : Dr) (N L M : Int) (fm : List (SV × SV)) (p : List SV) (lg ps : List (List SV)) (q1fm : notIn (.bs .i64 N 1 2 372) fm) (q2fm : notIn (.bs .i64 N 2 3 373) fm) : roundAC2 d N L M fm p lg ps := by
 have hlt : L + 2 < L + ((([[.bs .i64 N 0 1 371, .int .i64 1, .int .i64 0, .bs .i64 N 2 3 373, .int .i64 0, .int .i64 4096], [.bs .i64 N 0 1 371, .int .i64 5, .int .i64 0, .int .i64 0, .int .i64 1, .int .i64 0], [.bs .i64 N 0 1 371, .int .i64 3, .int .i64 0, .bs .i64 N 1 2 372, .int .i64 0, .int .i64 1], [.bs .i64 N 0 1 371, .int .i64 4, .int .i64 0, .bs .i64 N 1 2 372, .int .i64 0, .int .i64 0]] : List (List SV)).length : Nat) + (((p :: ps).length : Nat) : Int)) := by
  simp only [List.length_cons, List.length_nil]; omega
 exact ⟨rfl, rfl, q2fm, rfl, rfl, rfl, rfl, rfl, hlt, rfl, rfl, hlt, rfl, rfl, rfl, rfl, rfl, rfl, q1fm, rfl, rfl, rfl, rfl, rfl, rfl, rfl, rfl, rfl, rfl, rfl, rfl, rfl⟩
theorem roundC2_go (hA : EnvOK Tryz.prog envA) (d : Dr) (N L M : Int) (fm : List (SV × SV)) (p : List SV) (lg ps : List (List SV)) (q1fm : notIn (.bs .i64 N 1 2 372) fm) (q2fm : notIn (.bs .i64 N 2 3 373) fm) {K : Post} {j : Nat} (hk : BRounds Tryz.prog [(gapN N L lg ps p)] choLoop j (mkFr 70 ([7, 26, 27, 28].zip (sTC2 L))) (bTC2 (gapN N L lg ps p) d N L M fm) K) :
  BRounds Tryz.prog [(gapN N L lg ps p)] choLoop (j + 4) (mkFr 70 ([7, 26, 27, 28].zip (sSC2 L))) (bSC2 (gapN N L lg ps p) d N L M fm) K := by
 have hq := roundC2 d N L M fm p lg ps
 unfold roundQC2 at hq
 have h9 := roundC2_true d N L M fm p lg ps q1fm q2fm
 rw [<- hTC2_view] at hk
 rw [<- fSC2_view, <- hSC2_view]
 rw [<- gZ_view] at hk ⊢
 refine BRounds.runs hA hq h9 (by decide) (by rw [gZ_view]; rfl) (by rw [hSC2_view, bSC2]; exact Nat.le_add_left 1 _) (fun i hi => ?_) hk
 have : i = 0 := by omega
 subst this
 rw [hSC2_view, gZ_view, bSC2]
 rfl
set_option maxRecDepth 100000 in
theorem weakSC2 (b0 : Blk) (d : Dr) (k : Nat) (N L M : Int) (h1 : N = k) (h0 : 1 <= N) (h2 : N <= 370) (hM : M = 2952069120 * N) (hL : L = 4 * N + 2) : HWk (bTC2 b0 d N L M (kmap (.int .i64 4096) N k)) (bSC2 b0 d (N + 1) (L + 4) (M + 2952069120) (kmap (.int .i64 4096) (N + 1) (k + 1))) := by
 unfold bTC2 bSC2
 refine .cons (by exact BW.refl) ?_
 refine .cons (by exact BW.gmap (by rw [kmap_succ, List.append_assoc]; exact EWs.append (kmap_to _ _ _ _ (by omega)) (.cons (.bs (by omega) (by omega) (by omega)) .refl (.cons (.bs (by omega) (by omega) (by omega)) .refl .nil)))) ?_
 refine .cons (by exact BW.refl) ?_
 refine .cons (by exact BW.refl) ?_
 refine .cons (by exact BW.refl) ?_
 refine .cons (by exact BW.refl) ?_
 refine .cons (by exact BW.mapB1 .refl (.agg (.cons .refl (.cons .refl (.cons (.bs (by omega) (by omega) (by omega)) .nil))))) ?_
 refine .cons (by exact BW.fix (.cons .refl (.cons .refl (.cons .refl (.cons (.bs (by omega) (by omega) (by omega)) .refl))))) ?_
 refine .cons (by exact BW.fix (.cons .refl (.cons .refl (.cons .refl (.cons .refl (.cons .refl (.cons .refl (.cons .refl (.cons .refl (.cons .refl (.cons .refl (.cons .refl (.cons .refl (.cons .refl (.cons .refl (.cons .refl (.cons .refl (.cons .refl (.cons .refl (.cons .refl (.cons .refl (.cons .refl (.cons (.bs (by omega) (by omega) (by omega)) .nil))))))))))))))))))))))) ?_
 exact .nil
set_option maxRecDepth 100000 in
theorem weakZC2 (b0 : Blk) (d : Dr) (k : Nat) (N L M : Int) (h1 : N = k) (h2 : N = 371) (hM : M = 2952069120 * N) (hL : L = 4 * N + 2) : HWk (bTC2 b0 d N L M (kmap (.int .i64 4096) N k)) (bZC2 b0 d (N + 1) (L + 4) (M + 2952069120) (kmap (.int .i64 4096) (N + 1) (k + 1))) := by
 unfold bTC2 bZC2
 refine .cons (by exact BW.refl) ?_
 refine .cons (by exact BW.gmap (by rw [kmap_succ, List.append_assoc]; exact EWs.append (kmap_to _ _ _ _ (by omega)) (.cons (.bs (by omega) (by omega) (by omega)) .refl (.cons (.bs (by omega) (by omega) (by omega)) .refl .nil)))) ?_
 refine .cons (by exact BW.refl) ?_
 refine .cons (by exact BW.refl) ?_
 refine .cons (by exact BW.refl) ?_
 refine .cons (by exact BW.refl) ?_
 refine .cons (by exact BW.mapB1 .refl (.agg (.cons .refl (.cons .refl (.cons (.bs (by omega) (by omega) (by omega)) .nil))))) ?_
 refine .cons (by exact BW.fix (.cons .refl (.cons .refl (.cons .refl (.cons (.bs (by omega) (by omega) (by omega)) .refl))))) ?_
 refine .cons (by exact BW.fix (.cons .refl (.cons .refl (.cons .refl (.cons .refl (.cons .refl (.cons .refl (.cons .refl (.cons .refl (.cons .refl (.cons .refl (.cons .refl (.cons .refl (.cons .refl (.cons .refl (.cons .refl (.cons .refl (.cons .refl (.cons .refl (.cons .refl (.cons .refl (.cons .refl (.cons (.bs (by omega) (by omega) (by omega)) .nil))))))))))))))))))))))) ?_
 exact .nil
theorem sTC2_to (L L' : Int) (h : L' = L + 4) (h1 : 6 <= L') (h2 : L' <= 1486) : SWs (mkFr 70 ([7, 26, 27, 28].zip (sTC2 L))) (mkFr 70 ([7, 26, 27, 28].zip (sSC2 L'))) := SWs.mkFr _ _ (.cons .refl (.cons .refl (.cons .refl (.cons (.bs (by omega) (by omega) (by omega)) .nil))))
theorem sTC2_toZ (L L' : Int) (h : L' = L + 4) (h1 : L' = 1490) : SWs (mkFr 70 ([7, 26, 27, 28].zip (sTC2 L))) (mkFr 70 ([7, 26, 27, 28].zip (sZC2 L'))) := SWs.mkFr _ _ (.cons .refl (.cons .refl (.cons .refl (.cons (.bs (by omega) (by omega) (by omega)) .nil))))
theorem stepC2 (hA : EnvOK Tryz.prog envA) (d : Dr) (k : Nat) (N L M : Int) (h1 : N = k) (h0 : 1 <= N) (h2 : N <= 371) (hL : L = 4 * N + 2) {K : Post} {j : Nat} (hk : BRounds Tryz.prog [rowZ] choLoop j (mkFr 70 ([7, 26, 27, 28].zip (sTC2 L))) (bTC2 rowZ d N L M (kmap (.int .i64 4096) N k)) K) :
  BRounds Tryz.prog [rowZ] choLoop (j + 4) (mkFr 70 ([7, 26, 27, 28].zip (sSC2 L))) (bSC2 rowZ d N L M (kmap (.int .i64 4096) N k)) K := by
 obtain ⟨lg, ps, p, hg⟩ := gap_two k (by omega) (by omega)
 obtain ⟨g1, g2⟩ := hg N L h1 hL
 refine BRounds.base (HWk.cons g1 .nil) (BRounds.goes (Goes.weak SWs.refl (h' := bSC2 (gapN N L lg ps p) d N L M (kmap (.int .i64 4096) N k)) ?_) ?_)
 ·unfold bSC2; exact .cons g1 .refl
 ·refine roundC2_go hA _ _ _ _ _ _ _ _ (kmap_in (by omega) (by decide) (by decide) (by decide)) (kmap_in (by omega) (by decide) (by decide) (by decide)) ?_
  refine BRounds.base (HWk.cons g2 .nil) (BRounds.goes (Goes.weak SWs.refl (h' := bTC2 rowZ d N L M (kmap (.int .i64 4096) N k)) ?_) hk)
  unfold bTC2; exact .cons g2 .refl
theorem chainC2 (hA : EnvOK Tryz.prog envA) (d : Dr) {K : Post} {r : Nat} (hz : BRounds Tryz.prog [rowZ] choLoop r (mkFr 70 ([7, 26, 27, 28].zip (sZC2 1490))) (bZC2 rowZ d 372 1490 1098169712640 (kmap (.int .i64 4096) 372 372)) K) :
  ∀ (j k : Nat), k + j = 371 -> ∀ (N L M : Int), N = k -> 1 <= N -> L = 4 * N + 2 -> M = 2952069120 * N -> BRounds Tryz.prog [rowZ] choLoop (r + 4 * (j + 1)) (mkFr 70 ([7, 26, 27, 28].zip (sSC2 L))) (bSC2 rowZ d N L M (kmap (.int .i64 4096) N k)) K := by
 intro j
 induction j with
 | zero =>
  intro k hk N L M hN h0 hL hM
  have e0 : k = 371 := by omega
  subst e0
  have e1 : N = 371 := by omega
  subst e1
  have e3 : L = 1486 := by omega
  subst e3
  have e4 : M = 1095217643520 := by omega
  subst e4
  refine stepC2 hA d 371 _ _ _ hN h0 (by omega) hL ?_
  exact BRounds.goes (Goes.weak (sTC2_toZ 1486 1490 (by omega) (by omega)) (weakZC2 rowZ d 371 371 1486 1095217643520 (by omega) (by omega) (by omega) (by omega))) hz
 | succ j ih =>
  intro k hk N L M hN h0 hL hM
  rw [show r + 4 * (j + 1 + 1) = r + 4 * (j + 1) + 4 by omega]
  refine stepC2 hA d k _ _ _ hN h0 (by omega) hL ?_
  refine BRounds.goes (Goes.weak (sTC2_to L (L + 4) rfl (by omega) (by omega)) (weakSC2 rowZ d k N L M hN h0 (by omega) hM hL)) ?_
  exact ih (k + 1) (by omega) _ _ _ (by omega) (by omega) (by omega) (by omega)
end Go.Proofs.YtbppedokdfmnoaaGreatDoor

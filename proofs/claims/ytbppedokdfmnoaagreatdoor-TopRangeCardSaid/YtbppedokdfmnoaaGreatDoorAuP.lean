/- Part of the executor and its soundness, or of what it is told of this seat's program. No statement of the seat is proved here. -/
import Derived.Test.YtbppedokdfmnoaaGreatDoorAuL
import Derived.Test.YtbppedokdfmnoaaGreatDoorAuC
set_option linter.unusedSimpArgs false
set_option linter.unusedVariables false
namespace Go.Proofs.YtbppedokdfmnoaaGreatDoor
open Go.Sx
noncomputable def hPL1 (d : Dr) : HW := hwT 7 ⟨⟨rowZ,
 .mapB [(.int .i64 1, (.int .i64 1, 0))] 1,
 .mapB [(.int .i64 1, (.int .i64 0, 0)), (.int .i64 2, (.int .i64 0, 1))] 2,
 .row 3 1 [[.int .i64 1]],
 .row 303 4 [[.int .i64 0, .int .i64 4096, .int .i64 3, .int .i64 0], [.int .i64 0, .int .i64 4096, .int .i64 1, .int .i64 0]],
 .fix 110 (.sl 4 :: .int .i64 0 :: .int .i64 2 :: .int .i64 1 :: .int .i64 0 :: .int .i64 4096 :: .int .i64 0 :: .sl 3 :: flZ 31),
 .fix 143 [.ptr 5 0, .iv .i64 d.5 1 4 1 0, .int .i64 0, .mp 2, .mp 1],
 .dead,
 .dead,
 .dead,
 .dead,
 .dead,
 .dead,
 .dead,
 .dead,
 .dead⟩,
 R16.rep .dead,
 R16.rep .dead,
 R16.rep .dead,
 R16.rep .dead,
 R16.rep .dead,
 R16.rep .dead,
 R16.rep .dead,
 R16.rep .dead,
 R16.rep .dead,
 R16.rep .dead,
 R16.rep .dead,
 R16.rep .dead,
 R16.rep .dead,
 R16.rep .dead,
 R16.rep .dead⟩
noncomputable def bPL1 (d : Dr) : Hp := [rowZ,
 .mapB [(.int .i64 1, (.int .i64 1, 0))] 1,
 .mapB [(.int .i64 1, (.int .i64 0, 0)), (.int .i64 2, (.int .i64 0, 1))] 2,
 .row 3 1 [[.int .i64 1]],
 .row 303 4 [[.int .i64 0, .int .i64 4096, .int .i64 3, .int .i64 0], [.int .i64 0, .int .i64 4096, .int .i64 1, .int .i64 0]],
 .fix 110 (.sl 4 :: .int .i64 0 :: .int .i64 2 :: .int .i64 1 :: .int .i64 0 :: .int .i64 4096 :: .int .i64 0 :: .sl 3 :: flZ 31),
 .fix 143 [.ptr 5 0, .iv .i64 d.5 1 4 1 0, .int .i64 0, .mp 2, .mp 1]]
theorem hPL1_view (d : Dr) : (hPL1 d).view = bPL1 d := by kernel_rfl
noncomputable def sPL1 : List SV := [.ptr 6 0, .sl 0, .int .i64 1491, .int .i64 6]
def preQL1 (d : Dr) : Prop := piecesV Tryz.prog envA (run envA) 1 55 livPre (aF 1 d) (gZ rowZ) [] fun x F H wr => x = .normal /\ codeV Tryz.prog envA (run envA) 1 55 livR F H wr fun x F H wr => x = .normal /\ timesV Tryz.prog envA (run envA) 1 55 livLoop 6 F H wr fun _ F H wr => tidyV 55 1 (gZ rowZ) [7, 23, 24, 25] F H wr fun ss H' => ss = sPL1 /\ H' = hPL1 d
def preAL1 (d : Dr) : Prop := d.an < d.ad /\ SX.normal = SX.normal /\ SX.normal = SX.normal /\ sPL1 = sPL1 /\ hPL1 d = hPL1 d
theorem preL1 (d : Dr) : preQL1 d = preAL1 d := by kernel_rfl
def endQL (d : Dr) (N n L B : Int) (lf od : List (List SV)) (fm sm : List (SV × SV)) (lg : List (List SV)) : Prop := codeV Tryz.prog envA (run envA) 1 55 livLoop (fZL L) (hZL (gapE N L lg) d N n L B lf od fm sm) [] fun x F H wr => x = .normal /\ codeV Tryz.prog envA (run envA) 1 55 livLoop F H wr fun x F H wr => x = .exit 0 /\ codeV Tryz.prog envA (run envA) 1 55 livEnd F H wr fun x F H wr => x = .ret /\ tidyV 55 1 (gZ (gapE N L lg)) [4, 5] F H wr fun ss H' => ss = [.int .i64 (-1), .int .i64 0] /\ H' = gZ (gapE N L lg)
def endAL (d : Dr) (N n L B : Int) (lf od : List (List SV)) (fm sm : List (SV × SV)) (lg : List (List SV)) : Prop := L = L /\ L = L /\ notIn (.bs .i64 N 2 374 374) fm /\ N = N /\ notIn (.bs .i64 N 2 374 374) fm /\ SX.normal = SX.normal /\ SX.exit 0 = SX.exit 0 /\ SX.ret = SX.ret /\ ([.int .i64 (-1), .int .i64 0] : List SV) = [.int .i64 (-1), .int .i64 0] /\ gZ (gapE N L lg) = gZ (gapE N L lg)
theorem endL (d : Dr) (N n L B : Int) (lf od : List (List SV)) (fm sm : List (SV × SV)) (lg : List (List SV)) : endQL d N n L B lf od fm sm lg = endAL d N n L B lf od fm sm lg := by kernel_rfl
theorem endL_true (d : Dr) (N n L B : Int) (lf od : List (List SV)) (fm sm : List (SV × SV)) (lg : List (List SV)) (q2 : notIn (.bs .i64 N 2 374 374) fm) : endAL d N n L B lf od fm sm lg := ⟨rfl, rfl, q2, rfl, q2, rfl, rfl, rfl, rfl, rfl⟩
theorem finL (hA : EnvOK Tryz.prog envA) (d : Dr) (lf od : List (List SV)) : BRounds Tryz.prog [rowZ] livLoop 2 (mkFr 55 ([7, 23, 24, 25].zip (sZL 1490))) (bZL rowZ d 372 371 1490 1523712 lf od (kmap (.int .i64 0) 372 372) (kmap (.int .i64 1) 372 372)) fun x F h => x = .exit 0 /\ BOK Tryz.prog [rowZ] livEnd F h fun x F h => x = .ret /\ F = (mkFr 55 ([4, 5].zip [.int .i64 (-1), .int .i64 0])) /\ h = [rowZ] := by
 obtain ⟨g1, g2⟩ := gapE_two
 refine BRounds.base (HWk.cons g1 .nil) (BRounds.goes (Goes.weak SWs.refl (h' := bZL (gapE 372 1490 logA) d 372 371 1490 1523712 lf od (kmap (.int .i64 0) 372 372) (kmap (.int .i64 1) 372 372)) ?_) ?_)
 ·unfold bZL; exact .cons g1 .refl
 ·have hq := endL d 372 371 1490 1523712 lf od (kmap (.int .i64 0) 372 372) (kmap (.int .i64 1) 372 372) logA
  unfold endQL at hq
  have h9 := endL_true d 372 371 1490 1523712 lf od (kmap (.int .i64 0) 372 372) (kmap (.int .i64 1) 372 372) logA (kmap_in (by decide) (by decide) (by decide) (by decide))
  rw [<- fZL_view, <- hZL_view]
  exact last_sound hA hq h9 (by decide) (by rw [hZL_view, bZL]; exact Nat.le_add_left 1 _) (by rw [hZL_view, bZL]; rfl) g1 g2
end Go.Proofs.YtbppedokdfmnoaaGreatDoor

namespace Go.Proofs.YtbppedokdfmnoaaGreatDoor
open Go.Sx
noncomputable def hPL2 (d : Dr) : HW := hwT 7 ⟨⟨rowZ,
 .mapB [(.int .i64 1, (.int .i64 1, 0))] 1,
 .mapB [(.int .i64 1, (.int .i64 0, 0)), (.int .i64 2, (.int .i64 0, 1))] 2,
 .row 3 1 [[.int .i64 1]],
 .row 303 4 [[.int .i64 0, .int .i64 4096, .int .i64 3, .int .i64 0], [.int .i64 0, .int .i64 4096, .int .i64 1, .int .i64 0]],
 .fix 110 (.sl 4 :: .int .i64 0 :: .int .i64 2 :: .int .i64 1 :: .int .i64 0 :: .int .i64 4096 :: .int .i64 0 :: .sl 3 :: flZ 31),
 .fix 143 [.ptr 5 0, .iv .i64 d.5 1 4 1 0, .int .i64 0, .mp 2, .mp 1],
 .dead,
 .dead,
 .dead,
 .dead,
 .dead,
 .dead,
 .dead,
 .dead,
 .dead⟩,
 R16.rep .dead,
 R16.rep .dead,
 R16.rep .dead,
 R16.rep .dead,
 R16.rep .dead,
 R16.rep .dead,
 R16.rep .dead,
 R16.rep .dead,
 R16.rep .dead,
 R16.rep .dead,
 R16.rep .dead,
 R16.rep .dead,
 R16.rep .dead,
 R16.rep .dead,
 R16.rep .dead⟩
noncomputable def bPL2 (d : Dr) : Hp := [rowZ,
 .mapB [(.int .i64 1, (.int .i64 1, 0))] 1,
 .mapB [(.int .i64 1, (.int .i64 0, 0)), (.int .i64 2, (.int .i64 0, 1))] 2,
 .row 3 1 [[.int .i64 1]],
 .row 303 4 [[.int .i64 0, .int .i64 4096, .int .i64 3, .int .i64 0], [.int .i64 0, .int .i64 4096, .int .i64 1, .int .i64 0]],
 .fix 110 (.sl 4 :: .int .i64 0 :: .int .i64 2 :: .int .i64 1 :: .int .i64 0 :: .int .i64 4096 :: .int .i64 0 :: .sl 3 :: flZ 31),
 .fix 143 [.ptr 5 0, .iv .i64 d.5 1 4 1 0, .int .i64 0, .mp 2, .mp 1]]
theorem hPL2_view (d : Dr) : (hPL2 d).view = bPL2 d := by kernel_rfl
noncomputable def sPL2 : List SV := [.ptr 6 0, .sl 0, .int .i64 1491, .int .i64 6]
def preQL2 (d : Dr) : Prop := piecesV Tryz.prog envA (run envA) 1 55 livPre (aF 2 d) (gZ rowZ) [] fun x F H wr => x = .normal /\ codeV Tryz.prog envA (run envA) 1 55 livR F H wr fun x F H wr => x = .normal /\ timesV Tryz.prog envA (run envA) 1 55 livLoop 6 F H wr fun _ F H wr => tidyV 55 1 (gZ rowZ) [7, 23, 24, 25] F H wr fun ss H' => ss = sPL2 /\ H' = hPL2 d
def preAL2 (d : Dr) : Prop := d.an < d.ad /\ SX.normal = SX.normal /\ SX.normal = SX.normal /\ sPL2 = sPL2 /\ hPL2 d = hPL2 d
theorem preL2 (d : Dr) : preQL2 d = preAL2 d := by kernel_rfl
end Go.Proofs.YtbppedokdfmnoaaGreatDoor

namespace Go.Proofs.YtbppedokdfmnoaaGreatDoor
open Go.Sx
noncomputable def hPC1 (d : Dr) : HW := hwT 9 ⟨⟨rowZ,
 .mapB [(.int .i64 1, (.int .i64 4096, 0)), (.int .i64 2, (.int .i64 4096, 1))] 2,
 .mapB [] 0,
 .mapB [(.int .i64 0, (.agg [.int .i64 1, .int .i64 0], 0))] 1,
 .fix 257 [.mp 3],
 .mapB [] 0,
 .mapB [(.int .i64 0, (.agg [.int .i64 0, .int .i64 1, .int .i64 2952069120], 0))] 1,
 .fix 254 [.int .i64 1099511627776, .mp 6, .mp 5, .int .i64 0, .int .i64 0],
 .fix 151 [.int .i64 1, .iv .i64 d.1 1 1048575 1 0, .iv .i64 d.2 2 1048576 1 0, .int .i64 0, .int .i64 0, .int .i64 0, .iv .i64 d.3 1 4 1 0, .iv .i64 d.4 4096 8096 1 0, .int .i64 1048576, .iv .i64 d.5 1 4 1 0, .iv .i64 d.6 1 64 1 0, .iv .i64 d.7 256 5000 1 0, .int .i64 512, .int .i64 1099511627776, .rs 2 [[.int .i64 6000, .int .i64 100], [.int .i64 54000, .int .i64 50]], .sl 0, .int .i64 1, .ptr 7 0, .ptr 4 0, .mp 2, .mp 1, .int .i64 5],
 .dead,
 .dead,
 .dead,
 .dead,
 .dead,
 .dead,
 .dead⟩,
 R16.rep .dead,
 R16.rep .dead,
 R16.rep .dead,
 R16.rep .dead,
 R16.rep .dead,
 R16.rep .dead,
 R16.rep .dead,
 R16.rep .dead,
 R16.rep .dead,
 R16.rep .dead,
 R16.rep .dead,
 R16.rep .dead,
 R16.rep .dead,
 R16.rep .dead,
 R16.rep .dead⟩
noncomputable def bPC1 (d : Dr) : Hp := [rowZ,
 .mapB [(.int .i64 1, (.int .i64 4096, 0)), (.int .i64 2, (.int .i64 4096, 1))] 2,
 .mapB [] 0,
 .mapB [(.int .i64 0, (.agg [.int .i64 1, .int .i64 0], 0))] 1,
 .fix 257 [.mp 3],
 .mapB [] 0,
 .mapB [(.int .i64 0, (.agg [.int .i64 0, .int .i64 1, .int .i64 2952069120], 0))] 1,
 .fix 254 [.int .i64 1099511627776, .mp 6, .mp 5, .int .i64 0, .int .i64 0],
 .fix 151 [.int .i64 1, .iv .i64 d.1 1 1048575 1 0, .iv .i64 d.2 2 1048576 1 0, .int .i64 0, .int .i64 0, .int .i64 0, .iv .i64 d.3 1 4 1 0, .iv .i64 d.4 4096 8096 1 0, .int .i64 1048576, .iv .i64 d.5 1 4 1 0, .iv .i64 d.6 1 64 1 0, .iv .i64 d.7 256 5000 1 0, .int .i64 512, .int .i64 1099511627776, .rs 2 [[.int .i64 6000, .int .i64 100], [.int .i64 54000, .int .i64 50]], .sl 0, .int .i64 1, .ptr 7 0, .ptr 4 0, .mp 2, .mp 1, .int .i64 5]]
theorem hPC1_view (d : Dr) : (hPC1 d).view = bPC1 d := by kernel_rfl
noncomputable def sPC1 : List SV := [.ptr 8 0, .sl 0, .int .i64 1491, .int .i64 6]
def preQC1 (d : Dr) : Prop := piecesV Tryz.prog envA (run envA) 1 70 choPre (aF 1 d) (gZ rowZ) [] fun x F H wr => x = .normal /\ codeV Tryz.prog envA (run envA) 1 70 choR F H wr fun x F H wr => x = .normal /\ timesV Tryz.prog envA (run envA) 1 70 choLoop 6 F H wr fun _ F H wr => tidyV 70 1 (gZ rowZ) [7, 26, 27, 28] F H wr fun ss H' => ss = sPC1 /\ H' = hPC1 d
def preAC1 (d : Dr) : Prop := d.an < d.ad /\ SX.normal = SX.normal /\ SX.normal = SX.normal /\ sPC1 = sPC1 /\ hPC1 d = hPC1 d
theorem preC1 (d : Dr) : preQC1 d = preAC1 d := by kernel_rfl
def endQC1 (d : Dr) (N L M : Int) (fm : List (SV × SV)) (lg : List (List SV)) : Prop := codeV Tryz.prog envA (run envA) 1 70 choLoop (fZC1 L) (hZC1 (gapE N L lg) d N L M fm) [] fun x F H wr => x = .normal /\ codeV Tryz.prog envA (run envA) 1 70 choLoop F H wr fun x F H wr => x = .exit 0 /\ codeV Tryz.prog envA (run envA) 1 70 choEnd F H wr fun x F H wr => x = .ret /\ tidyV 70 1 (gZ (gapE N L lg)) [4, 5] F H wr fun ss H' => ss = [.int .i64 (-1), .int .i64 0] /\ H' = gZ (gapE N L lg)
def endAC1 (d : Dr) (N L M : Int) (fm : List (SV × SV)) (lg : List (List SV)) : Prop := L = L /\ L = L /\ notIn (.bs .i64 N 2 374 374) fm /\ SX.normal = SX.normal /\ SX.exit 0 = SX.exit 0 /\ SX.ret = SX.ret /\ ([.int .i64 (-1), .int .i64 0] : List SV) = [.int .i64 (-1), .int .i64 0] /\ gZ (gapE N L lg) = gZ (gapE N L lg)
theorem endC1 (d : Dr) (N L M : Int) (fm : List (SV × SV)) (lg : List (List SV)) : endQC1 d N L M fm lg = endAC1 d N L M fm lg := by kernel_rfl
theorem endC1_true (d : Dr) (N L M : Int) (fm : List (SV × SV)) (lg : List (List SV)) (q2 : notIn (.bs .i64 N 2 374 374) fm) : endAC1 d N L M fm lg := ⟨rfl, rfl, q2, rfl, rfl, rfl, rfl, rfl⟩
theorem finC1 (hA : EnvOK Tryz.prog envA) (d : Dr) : BRounds Tryz.prog [rowZ] choLoop 2 (mkFr 70 ([7, 26, 27, 28].zip (sZC1 1490))) (bZC1 rowZ d 372 1490 1098169712640 (kmap (.int .i64 4096) 372 372)) fun x F h => x = .exit 0 /\ BOK Tryz.prog [rowZ] choEnd F h fun x F h => x = .ret /\ F = (mkFr 70 ([4, 5].zip [.int .i64 (-1), .int .i64 0])) /\ h = [rowZ] := by
 obtain ⟨g1, g2⟩ := gapE_two
 refine BRounds.base (HWk.cons g1 .nil) (BRounds.goes (Goes.weak SWs.refl (h' := bZC1 (gapE 372 1490 logA) d 372 1490 1098169712640 (kmap (.int .i64 4096) 372 372)) ?_) ?_)
 ·unfold bZC1; exact .cons g1 .refl
 ·have hq := endC1 d 372 1490 1098169712640 (kmap (.int .i64 4096) 372 372) logA
  unfold endQC1 at hq
  have h9 := endC1_true d 372 1490 1098169712640 (kmap (.int .i64 4096) 372 372) logA (kmap_in (by decide) (by decide) (by decide) (by decide))
  rw [<- fZC1_view, <- hZC1_view]
  exact last_sound hA hq h9 (by decide) (by rw [hZC1_view, bZC1]; exact Nat.le_add_left 1 _) (by rw [hZC1_view, bZC1]; rfl) g1 g2
end Go.Proofs.YtbppedokdfmnoaaGreatDoor

namespace Go.Proofs.YtbppedokdfmnoaaGreatDoor
open Go.Sx
noncomputable def hPC2 (d : Dr) : HW := hwT 9 ⟨⟨rowZ,
 .mapB [(.int .i64 1, (.int .i64 4096, 0)), (.int .i64 2, (.int .i64 4096, 1))] 2,
 .mapB [] 0,
 .mapB [(.int .i64 0, (.agg [.int .i64 1, .int .i64 0], 0))] 1,
 .fix 257 [.mp 3],
 .mapB [] 0,
 .mapB [(.int .i64 0, (.agg [.int .i64 0, .int .i64 1, .int .i64 2952069120], 0))] 1,
 .fix 254 [.int .i64 1099511627776, .mp 6, .mp 5, .int .i64 0, .int .i64 0],
 .fix 151 [.int .i64 2, .iv .i64 d.1 1 1048575 1 0, .iv .i64 d.2 2 1048576 1 0, .int .i64 0, .int .i64 0, .int .i64 0, .iv .i64 d.3 1 4 1 0, .iv .i64 d.4 4096 8096 1 0, .int .i64 1048576, .iv .i64 d.5 1 4 1 0, .iv .i64 d.6 1 64 1 0, .iv .i64 d.7 256 5000 1 0, .int .i64 512, .int .i64 1099511627776, .rs 2 [[.int .i64 6000, .int .i64 100], [.int .i64 54000, .int .i64 50]], .sl 0, .int .i64 2, .ptr 7 0, .ptr 4 0, .mp 2, .mp 1, .int .i64 5],
 .dead,
 .dead,
 .dead,
 .dead,
 .dead,
 .dead,
 .dead⟩,
 R16.rep .dead,
 R16.rep .dead,
 R16.rep .dead,
 R16.rep .dead,
 R16.rep .dead,
 R16.rep .dead,
 R16.rep .dead,
 R16.rep .dead,
 R16.rep .dead,
 R16.rep .dead,
 R16.rep .dead,
 R16.rep .dead,
 R16.rep .dead,
 R16.rep .dead,
 R16.rep .dead⟩
noncomputable def bPC2 (d : Dr) : Hp := [rowZ,
 .mapB [(.int .i64 1, (.int .i64 4096, 0)), (.int .i64 2, (.int .i64 4096, 1))] 2,
 .mapB [] 0,
 .mapB [(.int .i64 0, (.agg [.int .i64 1, .int .i64 0], 0))] 1,
 .fix 257 [.mp 3],
 .mapB [] 0,
 .mapB [(.int .i64 0, (.agg [.int .i64 0, .int .i64 1, .int .i64 2952069120], 0))] 1,
 .fix 254 [.int .i64 1099511627776, .mp 6, .mp 5, .int .i64 0, .int .i64 0],
 .fix 151 [.int .i64 2, .iv .i64 d.1 1 1048575 1 0, .iv .i64 d.2 2 1048576 1 0, .int .i64 0, .int .i64 0, .int .i64 0, .iv .i64 d.3 1 4 1 0, .iv .i64 d.4 4096 8096 1 0, .int .i64 1048576, .iv .i64 d.5 1 4 1 0, .iv .i64 d.6 1 64 1 0, .iv .i64 d.7 256 5000 1 0, .int .i64 512, .int .i64 1099511627776, .rs 2 [[.int .i64 6000, .int .i64 100], [.int .i64 54000, .int .i64 50]], .sl 0, .int .i64 2, .ptr 7 0, .ptr 4 0, .mp 2, .mp 1, .int .i64 5]]
theorem hPC2_view (d : Dr) : (hPC2 d).view = bPC2 d := by kernel_rfl
noncomputable def sPC2 : List SV := [.ptr 8 0, .sl 0, .int .i64 1491, .int .i64 6]
def preQC2 (d : Dr) : Prop := piecesV Tryz.prog envA (run envA) 1 70 choPre (aF 2 d) (gZ rowZ) [] fun x F H wr => x = .normal /\ codeV Tryz.prog envA (run envA) 1 70 choR F H wr fun x F H wr => x = .normal /\ timesV Tryz.prog envA (run envA) 1 70 choLoop 6 F H wr fun _ F H wr => tidyV 70 1 (gZ rowZ) [7, 26, 27, 28] F H wr fun ss H' => ss = sPC2 /\ H' = hPC2 d
def preAC2 (d : Dr) : Prop := d.an < d.ad /\ SX.normal = SX.normal /\ SX.normal = SX.normal /\ sPC2 = sPC2 /\ hPC2 d = hPC2 d
theorem preC2 (d : Dr) : preQC2 d = preAC2 d := by kernel_rfl
def endQC2 (d : Dr) (N L M : Int) (fm : List (SV × SV)) (lg : List (List SV)) : Prop := codeV Tryz.prog envA (run envA) 1 70 choLoop (fZC2 L) (hZC2 (gapE N L lg) d N L M fm) [] fun x F H wr => x = .normal /\ codeV Tryz.prog envA (run envA) 1 70 choLoop F H wr fun x F H wr => x = .exit 0 /\ codeV Tryz.prog envA (run envA) 1 70 choEnd F H wr fun x F H wr => x = .ret /\ tidyV 70 1 (gZ (gapE N L lg)) [4, 5] F H wr fun ss H' => ss = [.int .i64 (-1), .int .i64 0] /\ H' = gZ (gapE N L lg)
def endAC2 (d : Dr) (N L M : Int) (fm : List (SV × SV)) (lg : List (List SV)) : Prop := L = L /\ L = L /\ notIn (.bs .i64 N 2 374 374) fm /\ SX.normal = SX.normal /\ SX.exit 0 = SX.exit 0 /\ SX.ret = SX.ret /\ ([.int .i64 (-1), .int .i64 0] : List SV) = [.int .i64 (-1), .int .i64 0] /\ gZ (gapE N L lg) = gZ (gapE N L lg)
theorem endC2 (d : Dr) (N L M : Int) (fm : List (SV × SV)) (lg : List (List SV)) : endQC2 d N L M fm lg = endAC2 d N L M fm lg := by kernel_rfl
theorem endC2_true (d : Dr) (N L M : Int) (fm : List (SV × SV)) (lg : List (List SV)) (q2 : notIn (.bs .i64 N 2 374 374) fm) : endAC2 d N L M fm lg := ⟨rfl, rfl, q2, rfl, rfl, rfl, rfl, rfl⟩
theorem finC2 (hA : EnvOK Tryz.prog envA) (d : Dr) : BRounds Tryz.prog [rowZ] choLoop 2 (mkFr 70 ([7, 26, 27, 28].zip (sZC2 1490))) (bZC2 rowZ d 372 1490 1098169712640 (kmap (.int .i64 4096) 372 372)) fun x F h => x = .exit 0 /\ BOK Tryz.prog [rowZ] choEnd F h fun x F h => x = .ret /\ F = (mkFr 70 ([4, 5].zip [.int .i64 (-1), .int .i64 0])) /\ h = [rowZ] := by
 obtain ⟨g1, g2⟩ := gapE_two
 refine BRounds.base (HWk.cons g1 .nil) (BRounds.goes (Goes.weak SWs.refl (h' := bZC2 (gapE 372 1490 logA) d 372 1490 1098169712640 (kmap (.int .i64 4096) 372 372)) ?_) ?_)
 ·unfold bZC2; exact .cons g1 .refl
 ·have hq := endC2 d 372 1490 1098169712640 (kmap (.int .i64 4096) 372 372) logA
  unfold endQC2 at hq
  have h9 := endC2_true d 372 1490 1098169712640 (kmap (.int .i64 4096) 372 372) logA (kmap_in (by decide) (by decide) (by decide) (by decide))
  rw [<- fZC2_view, <- hZC2_view]
  exact last_sound hA hq h9 (by decide) (by rw [hZC2_view, bZC2]; exact Nat.le_add_left 1 _) (by rw [hZC2_view, bZC2]; rfl) g1 g2
end Go.Proofs.YtbppedokdfmnoaaGreatDoor

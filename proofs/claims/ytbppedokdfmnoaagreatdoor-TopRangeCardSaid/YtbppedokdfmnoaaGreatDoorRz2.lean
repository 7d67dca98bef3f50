/- Part of the executor and its soundness, or of what it is told of this seat's program. No statement of the seat is proved here. -/
import Derived.Test.YtbppedokdfmnoaaGreatDoorRe
import Derived.Test.YtbppedokdfmnoaaGreatDoorRs2
set_option linter.unusedSimpArgs false
set_option linter.unusedVariables false
namespace Go.Proofs.YtbppedokdfmnoaaGreatDoor
open Go.Sx
noncomputable def hZ2 (d : Dr) (pk lf od : List (List SV)) : HW := hwT 30 ⟨⟨.glob 0 457 pow10,
 .row 90 6 logA,
 .row 3 1 [[.int .i64 0]],
 .mapB [(.int .i64 0, (.agg [.int .i64 0, .int .i64 1099511627776, .int .i64 1099511627776], 0))] 1,
 .mapB [] 0,
 .mapB [(.int .i64 0, (.agg [.int .i64 0, .int .i64 1, .bs .i64 1098169712640 0 1098169712640 1098169712640], 0))] 1,
 .fix 254 [.int .i64 1099511627776, .mp 5, .mp 4, .bs .i64 1098169712640 (-2952069120) 1095217643520 1095217643520, .int .i64 0],
 .fix 176 [.ptr 6 0, .mp 3],
 .gap 188 5 372 372 372 pk [[.bs .i64 372 1 373 373, .int .i64 0, .int .i64 4096, .bs .i64 372 (-1) 371 371, .int .i64 (-1)]] [],
 .gap 3 1 371 371 371 od [[.bs .i64 372 0 372 372]] [],
 .gap 303 4 372 372 372 lf [[.int .i64 0, .int .i64 4096, .int .i64 1, .int .i64 0]] [],
 .fix 110 (.sl 10 :: .int .i64 0 :: .bs .i64 372 1 373 373 :: .bs .i64 372 0 372 372 :: .int .i64 0 :: .bs .i64 1523712 0 0 1523712 :: .int .i64 0 :: .sl 9 :: flZ 31),
 .mapB [] 372,
 .fix 309 [.iv .i64 d.6 1 64 1 0, .bs .i64 372 0 372 372, .mp 12],
 .fix 307 [.iv .i64 d.6 1 64 1 0, .iv .i64 d.5 1 4 1 0, .bs .i64 372 0 372 372, .nils],
 .fix 299 (chan 372 0 372 372)⟩,
 ⟨.fix 199 [.ptr 15 0, .ptr 14 0, .ptr 13 0, .bs .i64 372 0 372 372, .bs .i64 2069064 0 0 2069064],
 .prow 194 1 [[.ptr 16 0]],
 .row 188 5 [[.bs .i64 372 1 373 373, .int .i64 0, .int .i64 4096, .bs .i64 372 (-1) 371 371, .int .i64 (-1)], [.int .i64 0, .int .i64 0, .int .i64 0, .int .i64 0, .int .i64 0]],
 .fix 222 [.int .i64 64, .int .i64 262144, .ss 18 0 1, .int .i64 4096],
 .prow 133 1 [[.ptr 19 0]],
 .row 82 5 [[.str [], .int .i64 (-1), .int .i64 0, .int .i64 0, .int .i64 0]],
 .fix 185 [.int .i64 0, .int .i64 0, .int .i64 1, .int .i64 64, .int .i64 262144, .int .i64 1099511627776, .int .i64 1099511627776],
 .prow 219 1 [[.ptr 22 0]],
 .mapB [(.str [115, 97], (.int .i64 0, 0))] 1,
 .row 305 4 [[.int .i64 0, .str [115, 97], .int .i64 1, .int .i64 0]],
 .fix 102 [.int .i64 512, .int .i64 2, .sl 25, .mp 24, .sl 23, .int .i64 1],
 .row 61 2 [[.int .i64 6000, .int .i64 100], [.int .i64 54000, .int .i64 50]],
 .fix 76 [.int .i64 2, .iv .i64 d.1 1 1048575 1 0, .iv .i64 d.2 2 1048576 1 0, .int .i64 0, .int .i64 0, .int .i64 0, .iv .i64 d.3 1 4 1 0, .iv .i64 d.4 4096 8096 1 0, .int .i64 1048576, .iv .i64 d.5 1 4 1 0, .iv .i64 d.6 1 64 1 0, .iv .i64 d.7 256 5000 1 0, .int .i64 512, .int .i64 1099511627776, .sl 27, .int .i64 2, .bs .i64 372 0 372 372, .int .i64 0, .ff, .int .i64 0, .ptr 26 0, .sl 21, .sl 20, .sl 17, .ptr 11 0, .sl 8, .ifc 120 (.agg [.ptr 7 0]), .sl 2, .sl 1],
 .fix 33 [.int .i64 2, .iv .i64 d.1 1 1048575 1 0, .iv .i64 d.2 2 1048576 1 0, .int .i64 0, .int .i64 0, .int .i64 0, .iv .i64 d.3 1 4 1 0, .iv .i64 d.4 4096 8096 1 0, .int .i64 1048576, .iv .i64 d.5 1 4 1 0, .iv .i64 d.6 1 64 1 0, .iv .i64 d.7 256 5000 1 0, .int .i64 512, .int .i64 1099511627776, .rs 2 [[.int .i64 6000, .int .i64 100], [.int .i64 54000, .int .i64 50]]],
 .dead,
 .dead⟩,
 R16.rep .dead,
 R16.rep .dead,
 R16.rep .dead,
 R16.rep .dead,
 R16.rep .dead,
 R16.rep .dead,
 R16.rep .dead,
 R16.rep .dead,
 R16.rep .dead,
 R16.rep .dead,
 R16.rep .dead,
 R16.rep .dead,
 R16.rep .dead,
 R16.rep .dead⟩
noncomputable def bZ2 (d : Dr) (pk lf od : List (List SV)) : Hp := [.glob 0 457 pow10,
 .row 90 6 logA,
 .row 3 1 [[.int .i64 0]],
 .mapB [(.int .i64 0, (.agg [.int .i64 0, .int .i64 1099511627776, .int .i64 1099511627776], 0))] 1,
 .mapB [] 0,
 .mapB [(.int .i64 0, (.agg [.int .i64 0, .int .i64 1, .bs .i64 1098169712640 0 1098169712640 1098169712640], 0))] 1,
 .fix 254 [.int .i64 1099511627776, .mp 5, .mp 4, .bs .i64 1098169712640 (-2952069120) 1095217643520 1095217643520, .int .i64 0],
 .fix 176 [.ptr 6 0, .mp 3],
 .gap 188 5 372 372 372 pk [[.bs .i64 372 1 373 373, .int .i64 0, .int .i64 4096, .bs .i64 372 (-1) 371 371, .int .i64 (-1)]] [],
 .gap 3 1 371 371 371 od [[.bs .i64 372 0 372 372]] [],
 .gap 303 4 372 372 372 lf [[.int .i64 0, .int .i64 4096, .int .i64 1, .int .i64 0]] [],
 .fix 110 (.sl 10 :: .int .i64 0 :: .bs .i64 372 1 373 373 :: .bs .i64 372 0 372 372 :: .int .i64 0 :: .bs .i64 1523712 0 0 1523712 :: .int .i64 0 :: .sl 9 :: flZ 31),
 .mapB [] 372,
 .fix 309 [.iv .i64 d.6 1 64 1 0, .bs .i64 372 0 372 372, .mp 12],
 .fix 307 [.iv .i64 d.6 1 64 1 0, .iv .i64 d.5 1 4 1 0, .bs .i64 372 0 372 372, .nils],
 .fix 299 (chan 372 0 372 372),
 .fix 199 [.ptr 15 0, .ptr 14 0, .ptr 13 0, .bs .i64 372 0 372 372, .bs .i64 2069064 0 0 2069064],
 .prow 194 1 [[.ptr 16 0]],
 .row 188 5 [[.bs .i64 372 1 373 373, .int .i64 0, .int .i64 4096, .bs .i64 372 (-1) 371 371, .int .i64 (-1)], [.int .i64 0, .int .i64 0, .int .i64 0, .int .i64 0, .int .i64 0]],
 .fix 222 [.int .i64 64, .int .i64 262144, .ss 18 0 1, .int .i64 4096],
 .prow 133 1 [[.ptr 19 0]],
 .row 82 5 [[.str [], .int .i64 (-1), .int .i64 0, .int .i64 0, .int .i64 0]],
 .fix 185 [.int .i64 0, .int .i64 0, .int .i64 1, .int .i64 64, .int .i64 262144, .int .i64 1099511627776, .int .i64 1099511627776],
 .prow 219 1 [[.ptr 22 0]],
 .mapB [(.str [115, 97], (.int .i64 0, 0))] 1,
 .row 305 4 [[.int .i64 0, .str [115, 97], .int .i64 1, .int .i64 0]],
 .fix 102 [.int .i64 512, .int .i64 2, .sl 25, .mp 24, .sl 23, .int .i64 1],
 .row 61 2 [[.int .i64 6000, .int .i64 100], [.int .i64 54000, .int .i64 50]],
 .fix 76 [.int .i64 2, .iv .i64 d.1 1 1048575 1 0, .iv .i64 d.2 2 1048576 1 0, .int .i64 0, .int .i64 0, .int .i64 0, .iv .i64 d.3 1 4 1 0, .iv .i64 d.4 4096 8096 1 0, .int .i64 1048576, .iv .i64 d.5 1 4 1 0, .iv .i64 d.6 1 64 1 0, .iv .i64 d.7 256 5000 1 0, .int .i64 512, .int .i64 1099511627776, .sl 27, .int .i64 2, .bs .i64 372 0 372 372, .int .i64 0, .ff, .int .i64 0, .ptr 26 0, .sl 21, .sl 20, .sl 17, .ptr 11 0, .sl 8, .ifc 120 (.agg [.ptr 7 0]), .sl 2, .sl 1],
 .fix 33 [.int .i64 2, .iv .i64 d.1 1 1048575 1 0, .iv .i64 d.2 2 1048576 1 0, .int .i64 0, .int .i64 0, .int .i64 0, .iv .i64 d.3 1 4 1 0, .iv .i64 d.4 4096 8096 1 0, .int .i64 1048576, .iv .i64 d.5 1 4 1 0, .iv .i64 d.6 1 64 1 0, .iv .i64 d.7 256 5000 1 0, .int .i64 512, .int .i64 1099511627776, .rs 2 [[.int .i64 6000, .int .i64 100], [.int .i64 54000, .int .i64 50]]]]
noncomputable def fZ2 : FW := fwT ⟨.any, .any, .any, .any, .ptr 29 0, .ptr 28 0, .any, .any, .any, .bs .i64 372 0 372 372, .any, .any, .any, .any, .any, .any⟩
end Go.Proofs.YtbppedokdfmnoaaGreatDoor

namespace Go.Proofs.YtbppedokdfmnoaaGreatDoor
open Go.Sx
set_option maxRecDepth 100000 in
theorem end2 (d : Dr) (pk lf od : List (List SV)) (kp : (pk.length : Int) = 371) (kf : (lf.length : Int) = 371) (ko : (od.length : Int) = 370) : HWk (bT2 d 371 370 1486 1095217643520 1519616 2063502 371 pk lf od (logN 370)) (bZ2 d (pk ++ [[.int .i64 372, .int .i64 0, .int .i64 4096, .int .i64 370, .int .i64 (-1)]]) (lf ++ [[.int .i64 0, .int .i64 4096, .int .i64 3, .int .i64 0]]) (od ++ [[.int .i64 371]])) := by
 unfold bT2 bZ2
 refine .cons (by exact BW.refl) ?_
 refine .cons (by rw [logA_eq]; exact BW.gapRow (RWs.append (RWs.refl (l := logN 370)) (RWs.cons (SWs.cons (.bsI (by decide)) (SWs.cons (.refl) (SWs.cons (.refl) (SWs.cons (.bsI (by decide)) SWs.refl)))) (RWs.cons (SWs.cons (.bsI (by decide)) SWs.refl) (RWs.cons (SWs.cons (.bsI (by decide)) (SWs.cons (.refl) (SWs.cons (.refl) (SWs.cons (.bsI (by decide)) SWs.refl)))) (RWs.cons (SWs.cons (.bsI (by decide)) (SWs.cons (.refl) (SWs.cons (.refl) (SWs.cons (.bsI (by decide)) SWs.refl)))) RWs.nil)))))) ?_
 refine .cons (by exact BW.refl) ?_
 refine .cons (by exact BW.refl) ?_
 refine .cons (by exact BW.refl) ?_
 refine .cons (by exact BW.mapB1 (.refl) (.agg (SWs.cons (.refl) (SWs.cons (.refl) (SWs.cons (.bs (by decide) (by decide) (by decide)) SWs.refl))))) ?_
 refine .cons (by exact BW.fix (SWs.cons (.refl) (SWs.cons (.refl) (SWs.cons (.refl) (SWs.cons (.bs (by decide) (by decide) (by decide)) SWs.refl))))) ?_
 refine .cons (by exact BW.refl) ?_
 refine .cons (by exact BW.gapTo (l := pk ++ [[.int .i64 372, .int .i64 0, .int .i64 4096, .int .i64 370, .int .i64 (-1)], [.bs .i64 372 1 373 373, .int .i64 0, .int .i64 4096, .bs .i64 372 (-1) 371 371, .int .i64 (-1)]]) (RWs.append .refl (RWs.cons (SWs.cons (.bsI (by decide)) (SWs.cons (.refl) (SWs.cons (.refl) (SWs.cons (.bsI (by decide)) SWs.refl)))) (RWs.cons (SWs.cons (.bs (by decide) (by decide) (by decide)) (SWs.cons (.refl) (SWs.cons (.refl) (SWs.cons (.bs (by decide) (by decide) (by decide)) SWs.refl)))) RWs.nil))) (by simp) (by omega) (by omega) (by simp; omega)) ?_
 refine .cons (by exact BW.gapTo (l := od ++ [[.int .i64 371], [.bs .i64 372 0 372 372]]) (RWs.append .refl (RWs.cons (SWs.cons (.bsI (by decide)) SWs.refl) (RWs.cons (SWs.cons (.bs (by decide) (by decide) (by decide)) SWs.refl) RWs.nil))) (by simp) (by omega) (by omega) (by simp; omega)) ?_
 refine .cons (by exact BW.gapTo (l := lf ++ [[.int .i64 0, .int .i64 4096, .int .i64 3, .int .i64 0], [.int .i64 0, .int .i64 4096, .int .i64 1, .int .i64 0]]) (RWs.append .refl (RWs.cons SWs.refl (RWs.cons SWs.refl RWs.nil))) (by simp) (by omega) (by omega) (by simp; omega)) ?_
 refine .cons (by exact BW.fix (SWs.cons (.refl) (SWs.cons (.refl) (SWs.cons (.bs (by decide) (by decide) (by decide)) (SWs.cons (.bs (by decide) (by decide) (by decide)) (SWs.cons (.refl) (SWs.cons (.bs (by decide) (by decide) (by decide)) SWs.refl))))))) ?_
 refine .cons (by exact BW.refl) ?_
 refine .cons (by exact BW.fix (SWs.cons (.refl) (SWs.cons (.bs (by decide) (by decide) (by decide)) SWs.refl))) ?_
 refine .cons (by exact BW.fix (SWs.cons (.refl) (SWs.cons (.refl) (SWs.cons (.bs (by decide) (by decide) (by decide)) SWs.refl)))) ?_
 refine .cons (by exact BW.fix (chan_next (N := 371) (by decide) (by decide))) ?_
 refine .cons (by exact BW.fix (SWs.cons (.refl) (SWs.cons (.refl) (SWs.cons (.refl) (SWs.cons (.bs (by decide) (by decide) (by decide)) (SWs.cons (.bs (by decide) (by decide) (by decide)) SWs.refl)))))) ?_
 refine .cons (by exact BW.refl) ?_
 refine .cons (by exact BW.row (RWs.cons (SWs.cons (.bs (by decide) (by decide) (by decide)) (SWs.cons (.refl) (SWs.cons (.refl) (SWs.cons (.bs (by decide) (by decide) (by decide)) SWs.refl)))) (RWs.cons SWs.refl RWs.nil))) ?_
 refine .cons (by exact BW.refl) ?_
 refine .cons (by exact BW.refl) ?_
 refine .cons (by exact BW.refl) ?_
 refine .cons (by exact BW.refl) ?_
 refine .cons (by exact BW.refl) ?_
 refine .cons (by exact BW.refl) ?_
 refine .cons (by exact BW.refl) ?_
 refine .cons (by exact BW.refl) ?_
 refine .cons (by exact BW.refl) ?_
 refine .cons (by exact BW.fix (SWs.cons (.refl) (SWs.cons (.refl) (SWs.cons (.refl) (SWs.cons (.refl) (SWs.cons (.refl) (SWs.cons (.refl) (SWs.cons (.refl) (SWs.cons (.refl) (SWs.cons (.refl) (SWs.cons (.refl) (SWs.cons (.refl) (SWs.cons (.refl) (SWs.cons (.refl) (SWs.cons (.refl) (SWs.cons (.refl) (SWs.cons (.refl) (SWs.cons (.bs (by decide) (by decide) (by decide)) SWs.refl)))))))))))))))))) ?_
 refine .cons (by exact BW.refl) ?_
 exact .nil
end Go.Proofs.YtbppedokdfmnoaaGreatDoor

namespace Go.Proofs.YtbppedokdfmnoaaGreatDoor
open Go.Sx
def lastQ2 (d : Dr) (pk lf od : List (List SV)) : Prop := codeV Tryz.prog (envZ 2 d) (run (envZ 2 d)) 1 103 lawLoop fZ2 (hZ2 d pk lf od) [] fun x F' _ wr => x = .ret /\ wr = [] /\ getF 103 F' 2 fun s => s = .tt
def lastA2 (d : Dr) : Prop := (372 : Int) = 372 /\ (372 : Int) = 372 /\ (372 : Int) = 372 /\ chan 372 0 372 372 = chan 372 0 372 372 /\ (cfgV 2 d = cfgV 2 d /\ Blk.row 90 6 logZ = Blk.row 90 6 logZ) /\ SX.ret = SX.ret /\ ([] : List Nat) = [] /\ SV.tt = SV.tt
theorem last2 (d : Dr) (pk lf od : List (List SV)) : lastQ2 d pk lf od = lastA2 d := by kernel_rfl
theorem lastA2_true (d : Dr) : lastA2 d := by
 unfold lastA2
 repeat' (first | exact ⟨rfl, rfl⟩ | refine ⟨rfl, ?_⟩ | refine ⟨⟨rfl, rfl⟩, ?_⟩)
end Go.Proofs.YtbppedokdfmnoaaGreatDoor

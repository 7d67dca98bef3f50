/- Part of the executor and its soundness, or of what it is told of this seat's program. No statement of the seat is proved here. -/
import Derived.Test.YtbppedokdfmnoaaGreatDoorRe
import Derived.Test.YtbppedokdfmnoaaGreatDoorRs2
set_option linter.unusedSimpArgs false
set_option linter.unusedVariables false
namespace Go.Proofs.YtbppedokdfmnoaaGreatDoor
open Go.Sx
noncomputable def hP20 (d : Dr) : HW := hwT 28 ⟨⟨.glob 0 457 pow10,
 .row 90 6 [[.int .i64 0, .int .i64 1, .int .i64 0, .int .i64 1, .int .i64 0, .int .i64 4096]],
 .mapB [] 0,
 .mapB [] 0,
 .mapB [] 0,
 .fix 254 [.int .i64 1099511627776, .mp 4, .mp 3, .int .i64 0, .int .i64 0],
 .fix 176 [.ptr 5 0, .mp 2],
 .row 188 5 [[.int .i64 1, .int .i64 0, .int .i64 4096, .int .i64 0, .int .i64 (-1)]],
 .row 303 4 [[.int .i64 0, .int .i64 4096, .int .i64 1, .int .i64 0]],
 .fix 110 (.sl 8 :: .int .i64 0 :: .int .i64 1 :: .int .i64 0 :: .int .i64 0 :: .int .i64 0 :: .int .i64 0 :: .nils :: flZ 31),
 .mapB [] 0,
 .fix 309 [.iv .i64 d.6 1 64 1 0, .int .i64 0, .mp 10],
 .fix 307 [.iv .i64 d.6 1 64 1 0, .iv .i64 d.5 1 4 1 0, .int .i64 0, .nils],
 .fix 299 [.int .i64 0, .int .i64 0, .int .i64 0, .ff, .ff, .ff, .ff, .ff, .ff, .ff, .ff, .ff, .ff, .ff, .ff, .ff, .ff, .ff, .ff, .ff, .ff, .ff, .ff, .ff, .ff, .ff, .ff, .ff, .ff, .ff, .ff, .ff, .ff, .ff, .ff, .int .i64 0, .int .i64 0, .ff, .ff],
 .fix 199 [.ptr 13 0, .ptr 12 0, .ptr 11 0, .int .i64 0, .int .i64 0],
 .prow 194 1 [[.ptr 14 0]]⟩,
 ⟨.row 188 5 [[.int .i64 1, .int .i64 0, .int .i64 4096, .int .i64 0, .int .i64 (-1)]],
 .fix 222 [.int .i64 64, .int .i64 262144, .sl 16, .int .i64 4096],
 .prow 133 1 [[.ptr 17 0]],
 .row 82 5 [[.str [], .int .i64 (-1), .int .i64 0, .int .i64 0, .int .i64 0]],
 .fix 185 [.int .i64 0, .int .i64 0, .int .i64 1, .int .i64 64, .int .i64 262144, .int .i64 1099511627776, .int .i64 1099511627776],
 .prow 219 1 [[.ptr 20 0]],
 .mapB [(.str [115, 97], (.int .i64 0, 0))] 1,
 .row 305 4 [[.int .i64 0, .str [115, 97], .int .i64 1, .int .i64 0]],
 .fix 102 [.int .i64 512, .int .i64 2, .sl 23, .mp 22, .sl 21, .int .i64 1],
 .row 61 2 [[.int .i64 6000, .int .i64 100], [.int .i64 54000, .int .i64 50]],
 .fix 76 [.int .i64 2, .iv .i64 d.1 1 1048575 1 0, .iv .i64 d.2 2 1048576 1 0, .int .i64 0, .int .i64 0, .int .i64 0, .iv .i64 d.3 1 4 1 0, .iv .i64 d.4 4096 8096 1 0, .int .i64 1048576, .iv .i64 d.5 1 4 1 0, .iv .i64 d.6 1 64 1 0, .iv .i64 d.7 256 5000 1 0, .int .i64 512, .int .i64 1099511627776, .sl 25, .int .i64 2, .int .i64 0, .int .i64 0, .ff, .int .i64 0, .ptr 24 0, .sl 19, .sl 18, .sl 15, .ptr 9 0, .sl 7, .ifc 120 (.agg [.ptr 6 0]), .nils, .sl 1],
 .fix 33 [.int .i64 2, .iv .i64 d.1 1 1048575 1 0, .iv .i64 d.2 2 1048576 1 0, .int .i64 0, .int .i64 0, .int .i64 0, .iv .i64 d.3 1 4 1 0, .iv .i64 d.4 4096 8096 1 0, .int .i64 1048576, .iv .i64 d.5 1 4 1 0, .iv .i64 d.6 1 64 1 0, .iv .i64 d.7 256 5000 1 0, .int .i64 512, .int .i64 1099511627776, .rs 2 [[.int .i64 6000, .int .i64 100], [.int .i64 54000, .int .i64 50]]],
 .dead,
 .dead,
 .dead,
 .dead⟩,
 R16.rep .dead,
 R16.rep .dead,
 R16.rep .dead,
 R16.rep .dead,
 R16.rep .dead,
 R16.rep .dead,
 R16.rep .dead,
 R16.rep .dead,
 R16.rep .dead,
 R16.rep .dead,
 R16.rep .dead,
 R16.rep .dead,
 R16.rep .dead,
 R16.rep .dead⟩
noncomputable def bP20 (d : Dr) : Hp := [.glob 0 457 pow10,
 .row 90 6 [[.int .i64 0, .int .i64 1, .int .i64 0, .int .i64 1, .int .i64 0, .int .i64 4096]],
 .mapB [] 0,
 .mapB [] 0,
 .mapB [] 0,
 .fix 254 [.int .i64 1099511627776, .mp 4, .mp 3, .int .i64 0, .int .i64 0],
 .fix 176 [.ptr 5 0, .mp 2],
 .row 188 5 [[.int .i64 1, .int .i64 0, .int .i64 4096, .int .i64 0, .int .i64 (-1)]],
 .row 303 4 [[.int .i64 0, .int .i64 4096, .int .i64 1, .int .i64 0]],
 .fix 110 (.sl 8 :: .int .i64 0 :: .int .i64 1 :: .int .i64 0 :: .int .i64 0 :: .int .i64 0 :: .int .i64 0 :: .nils :: flZ 31),
 .mapB [] 0,
 .fix 309 [.iv .i64 d.6 1 64 1 0, .int .i64 0, .mp 10],
 .fix 307 [.iv .i64 d.6 1 64 1 0, .iv .i64 d.5 1 4 1 0, .int .i64 0, .nils],
 .fix 299 [.int .i64 0, .int .i64 0, .int .i64 0, .ff, .ff, .ff, .ff, .ff, .ff, .ff, .ff, .ff, .ff, .ff, .ff, .ff, .ff, .ff, .ff, .ff, .ff, .ff, .ff, .ff, .ff, .ff, .ff, .ff, .ff, .ff, .ff, .ff, .ff, .ff, .ff, .int .i64 0, .int .i64 0, .ff, .ff],
 .fix 199 [.ptr 13 0, .ptr 12 0, .ptr 11 0, .int .i64 0, .int .i64 0],
 .prow 194 1 [[.ptr 14 0]],
 .row 188 5 [[.int .i64 1, .int .i64 0, .int .i64 4096, .int .i64 0, .int .i64 (-1)]],
 .fix 222 [.int .i64 64, .int .i64 262144, .sl 16, .int .i64 4096],
 .prow 133 1 [[.ptr 17 0]],
 .row 82 5 [[.str [], .int .i64 (-1), .int .i64 0, .int .i64 0, .int .i64 0]],
 .fix 185 [.int .i64 0, .int .i64 0, .int .i64 1, .int .i64 64, .int .i64 262144, .int .i64 1099511627776, .int .i64 1099511627776],
 .prow 219 1 [[.ptr 20 0]],
 .mapB [(.str [115, 97], (.int .i64 0, 0))] 1,
 .row 305 4 [[.int .i64 0, .str [115, 97], .int .i64 1, .int .i64 0]],
 .fix 102 [.int .i64 512, .int .i64 2, .sl 23, .mp 22, .sl 21, .int .i64 1],
 .row 61 2 [[.int .i64 6000, .int .i64 100], [.int .i64 54000, .int .i64 50]],
 .fix 76 [.int .i64 2, .iv .i64 d.1 1 1048575 1 0, .iv .i64 d.2 2 1048576 1 0, .int .i64 0, .int .i64 0, .int .i64 0, .iv .i64 d.3 1 4 1 0, .iv .i64 d.4 4096 8096 1 0, .int .i64 1048576, .iv .i64 d.5 1 4 1 0, .iv .i64 d.6 1 64 1 0, .iv .i64 d.7 256 5000 1 0, .int .i64 512, .int .i64 1099511627776, .sl 25, .int .i64 2, .int .i64 0, .int .i64 0, .ff, .int .i64 0, .ptr 24 0, .sl 19, .sl 18, .sl 15, .ptr 9 0, .sl 7, .ifc 120 (.agg [.ptr 6 0]), .nils, .sl 1],
 .fix 33 [.int .i64 2, .iv .i64 d.1 1 1048575 1 0, .iv .i64 d.2 2 1048576 1 0, .int .i64 0, .int .i64 0, .int .i64 0, .iv .i64 d.3 1 4 1 0, .iv .i64 d.4 4096 8096 1 0, .int .i64 1048576, .iv .i64 d.5 1 4 1 0, .iv .i64 d.6 1 64 1 0, .iv .i64 d.7 256 5000 1 0, .int .i64 512, .int .i64 1099511627776, .rs 2 [[.int .i64 6000, .int .i64 100], [.int .i64 54000, .int .i64 50]]]]
noncomputable def sP20 : List SV := [.ptr 27 0, .ptr 26 0, .int .i64 0]
noncomputable def fP20 : FW := fwT ⟨.any, .any, .any, .any, .ptr 27 0, .ptr 26 0, .any, .any, .any, .int .i64 0, .any, .any, .any, .any, .any, .any⟩
noncomputable def hP21 (d : Dr) : HW := hwT 30 ⟨⟨.glob 0 457 pow10,
 .row 90 6 [[.int .i64 0, .int .i64 1, .int .i64 0, .int .i64 1, .int .i64 0, .int .i64 4096], [.int .i64 0, .int .i64 1, .int .i64 0, .int .i64 2, .int .i64 0, .int .i64 4096], [.int .i64 0, .int .i64 8, .int .i64 0, .int .i64 0, .int .i64 0, .int .i64 1], [.int .i64 0, .int .i64 5, .int .i64 0, .int .i64 0, .int .i64 1, .int .i64 0], [.int .i64 0, .int .i64 3, .int .i64 0, .int .i64 1, .int .i64 0, .int .i64 1], [.int .i64 0, .int .i64 4, .int .i64 0, .int .i64 1, .int .i64 0, .int .i64 0]],
 .row 3 1 [[.int .i64 0]],
 .mapB [(.int .i64 0, (.agg [.int .i64 0, .int .i64 1099511627776, .int .i64 1099511627776], 0))] 1,
 .mapB [] 0,
 .mapB [(.int .i64 0, (.agg [.int .i64 0, .int .i64 1, .int .i64 2952069120], 0))] 1,
 .fix 254 [.int .i64 1099511627776, .mp 5, .mp 4, .int .i64 0, .int .i64 0],
 .fix 176 [.ptr 6 0, .mp 3],
 .row 188 5 [[.int .i64 1, .int .i64 0, .int .i64 4096, .int .i64 0, .int .i64 (-1)], [.int .i64 2, .int .i64 0, .int .i64 4096, .int .i64 0, .int .i64 (-1)]],
 .row 3 1 [[.int .i64 1]],
 .row 303 4 [[.int .i64 0, .int .i64 4096, .int .i64 3, .int .i64 0], [.int .i64 0, .int .i64 4096, .int .i64 1, .int .i64 0]],
 .fix 110 (.sl 10 :: .int .i64 0 :: .int .i64 2 :: .int .i64 1 :: .int .i64 0 :: .int .i64 4096 :: .int .i64 0 :: .sl 9 :: flZ 31),
 .mapB [] 1,
 .fix 309 [.iv .i64 d.6 1 64 1 0, .int .i64 1, .mp 12],
 .fix 307 [.iv .i64 d.6 1 64 1 0, .iv .i64 d.5 1 4 1 0, .int .i64 1, .nils],
 .fix 299 [.int .i64 0, .int .i64 0, .int .i64 0, .tt, .ff, .ff, .ff, .ff, .ff, .ff, .ff, .ff, .ff, .ff, .ff, .ff, .ff, .ff, .ff, .ff, .ff, .ff, .ff, .ff, .ff, .ff, .ff, .ff, .ff, .ff, .ff, .ff, .ff, .ff, .ff, .int .i64 1, .int .i64 1, .ff, .ff]⟩,
 ⟨.fix 199 [.ptr 15 0, .ptr 14 0, .ptr 13 0, .int .i64 1, .int .i64 5562],
 .prow 194 1 [[.ptr 16 0]],
 .row 188 5 [[.int .i64 2, .int .i64 0, .int .i64 4096, .int .i64 0, .int .i64 (-1)], [.int .i64 0, .int .i64 0, .int .i64 0, .int .i64 0, .int .i64 0]],
 .fix 222 [.int .i64 64, .int .i64 262144, .ss 18 0 1, .int .i64 4096],
 .prow 133 1 [[.ptr 19 0]],
 .row 82 5 [[.str [], .int .i64 (-1), .int .i64 0, .int .i64 0, .int .i64 0]],
 .fix 185 [.int .i64 0, .int .i64 0, .int .i64 1, .int .i64 64, .int .i64 262144, .int .i64 1099511627776, .int .i64 1099511627776],
 .prow 219 1 [[.ptr 22 0]],
 .mapB [(.str [115, 97], (.int .i64 0, 0))] 1,
 .row 305 4 [[.int .i64 0, .str [115, 97], .int .i64 1, .int .i64 0]],
 .fix 102 [.int .i64 512, .int .i64 2, .sl 25, .mp 24, .sl 23, .int .i64 1],
 .row 61 2 [[.int .i64 6000, .int .i64 100], [.int .i64 54000, .int .i64 50]],
 .fix 76 [.int .i64 2, .iv .i64 d.1 1 1048575 1 0, .iv .i64 d.2 2 1048576 1 0, .int .i64 0, .int .i64 0, .int .i64 0, .iv .i64 d.3 1 4 1 0, .iv .i64 d.4 4096 8096 1 0, .int .i64 1048576, .iv .i64 d.5 1 4 1 0, .iv .i64 d.6 1 64 1 0, .iv .i64 d.7 256 5000 1 0, .int .i64 512, .int .i64 1099511627776, .sl 27, .int .i64 2, .int .i64 1, .int .i64 0, .ff, .int .i64 0, .ptr 26 0, .sl 21, .sl 20, .sl 17, .ptr 11 0, .sl 8, .ifc 120 (.agg [.ptr 7 0]), .sl 2, .sl 1],
 .fix 33 [.int .i64 2, .iv .i64 d.1 1 1048575 1 0, .iv .i64 d.2 2 1048576 1 0, .int .i64 0, .int .i64 0, .int .i64 0, .iv .i64 d.3 1 4 1 0, .iv .i64 d.4 4096 8096 1 0, .int .i64 1048576, .iv .i64 d.5 1 4 1 0, .iv .i64 d.6 1 64 1 0, .iv .i64 d.7 256 5000 1 0, .int .i64 512, .int .i64 1099511627776, .rs 2 [[.int .i64 6000, .int .i64 100], [.int .i64 54000, .int .i64 50]]],
 .dead,
 .dead⟩,
 R16.rep .dead,
 R16.rep .dead,
 R16.rep .dead,
 R16.rep .dead,
 R16.rep .dead,
 R16.rep .dead,
 R16.rep .dead,
 R16.rep .dead,
 R16.rep .dead,
 R16.rep .dead,
 R16.rep .dead,
 R16.rep .dead,
 R16.rep .dead,
 R16.rep .dead⟩
noncomputable def bP21 (d : Dr) : Hp := [.glob 0 457 pow10,
 .row 90 6 [[.int .i64 0, .int .i64 1, .int .i64 0, .int .i64 1, .int .i64 0, .int .i64 4096], [.int .i64 0, .int .i64 1, .int .i64 0, .int .i64 2, .int .i64 0, .int .i64 4096], [.int .i64 0, .int .i64 8, .int .i64 0, .int .i64 0, .int .i64 0, .int .i64 1], [.int .i64 0, .int .i64 5, .int .i64 0, .int .i64 0, .int .i64 1, .int .i64 0], [.int .i64 0, .int .i64 3, .int .i64 0, .int .i64 1, .int .i64 0, .int .i64 1], [.int .i64 0, .int .i64 4, .int .i64 0, .int .i64 1, .int .i64 0, .int .i64 0]],
 .row 3 1 [[.int .i64 0]],
 .mapB [(.int .i64 0, (.agg [.int .i64 0, .int .i64 1099511627776, .int .i64 1099511627776], 0))] 1,
 .mapB [] 0,
 .mapB [(.int .i64 0, (.agg [.int .i64 0, .int .i64 1, .int .i64 2952069120], 0))] 1,
 .fix 254 [.int .i64 1099511627776, .mp 5, .mp 4, .int .i64 0, .int .i64 0],
 .fix 176 [.ptr 6 0, .mp 3],
 .row 188 5 [[.int .i64 1, .int .i64 0, .int .i64 4096, .int .i64 0, .int .i64 (-1)], [.int .i64 2, .int .i64 0, .int .i64 4096, .int .i64 0, .int .i64 (-1)]],
 .row 3 1 [[.int .i64 1]],
 .row 303 4 [[.int .i64 0, .int .i64 4096, .int .i64 3, .int .i64 0], [.int .i64 0, .int .i64 4096, .int .i64 1, .int .i64 0]],
 .fix 110 (.sl 10 :: .int .i64 0 :: .int .i64 2 :: .int .i64 1 :: .int .i64 0 :: .int .i64 4096 :: .int .i64 0 :: .sl 9 :: flZ 31),
 .mapB [] 1,
 .fix 309 [.iv .i64 d.6 1 64 1 0, .int .i64 1, .mp 12],
 .fix 307 [.iv .i64 d.6 1 64 1 0, .iv .i64 d.5 1 4 1 0, .int .i64 1, .nils],
 .fix 299 [.int .i64 0, .int .i64 0, .int .i64 0, .tt, .ff, .ff, .ff, .ff, .ff, .ff, .ff, .ff, .ff, .ff, .ff, .ff, .ff, .ff, .ff, .ff, .ff, .ff, .ff, .ff, .ff, .ff, .ff, .ff, .ff, .ff, .ff, .ff, .ff, .ff, .ff, .int .i64 1, .int .i64 1, .ff, .ff],
 .fix 199 [.ptr 15 0, .ptr 14 0, .ptr 13 0, .int .i64 1, .int .i64 5562],
 .prow 194 1 [[.ptr 16 0]],
 .row 188 5 [[.int .i64 2, .int .i64 0, .int .i64 4096, .int .i64 0, .int .i64 (-1)], [.int .i64 0, .int .i64 0, .int .i64 0, .int .i64 0, .int .i64 0]],
 .fix 222 [.int .i64 64, .int .i64 262144, .ss 18 0 1, .int .i64 4096],
 .prow 133 1 [[.ptr 19 0]],
 .row 82 5 [[.str [], .int .i64 (-1), .int .i64 0, .int .i64 0, .int .i64 0]],
 .fix 185 [.int .i64 0, .int .i64 0, .int .i64 1, .int .i64 64, .int .i64 262144, .int .i64 1099511627776, .int .i64 1099511627776],
 .prow 219 1 [[.ptr 22 0]],
 .mapB [(.str [115, 97], (.int .i64 0, 0))] 1,
 .row 305 4 [[.int .i64 0, .str [115, 97], .int .i64 1, .int .i64 0]],
 .fix 102 [.int .i64 512, .int .i64 2, .sl 25, .mp 24, .sl 23, .int .i64 1],
 .row 61 2 [[.int .i64 6000, .int .i64 100], [.int .i64 54000, .int .i64 50]],
 .fix 76 [.int .i64 2, .iv .i64 d.1 1 1048575 1 0, .iv .i64 d.2 2 1048576 1 0, .int .i64 0, .int .i64 0, .int .i64 0, .iv .i64 d.3 1 4 1 0, .iv .i64 d.4 4096 8096 1 0, .int .i64 1048576, .iv .i64 d.5 1 4 1 0, .iv .i64 d.6 1 64 1 0, .iv .i64 d.7 256 5000 1 0, .int .i64 512, .int .i64 1099511627776, .sl 27, .int .i64 2, .int .i64 1, .int .i64 0, .ff, .int .i64 0, .ptr 26 0, .sl 21, .sl 20, .sl 17, .ptr 11 0, .sl 8, .ifc 120 (.agg [.ptr 7 0]), .sl 2, .sl 1],
 .fix 33 [.int .i64 2, .iv .i64 d.1 1 1048575 1 0, .iv .i64 d.2 2 1048576 1 0, .int .i64 0, .int .i64 0, .int .i64 0, .iv .i64 d.3 1 4 1 0, .iv .i64 d.4 4096 8096 1 0, .int .i64 1048576, .iv .i64 d.5 1 4 1 0, .iv .i64 d.6 1 64 1 0, .iv .i64 d.7 256 5000 1 0, .int .i64 512, .int .i64 1099511627776, .rs 2 [[.int .i64 6000, .int .i64 100], [.int .i64 54000, .int .i64 50]]]]
noncomputable def sP21 : List SV := [.ptr 29 0, .ptr 28 0, .int .i64 1]
def preQ2 (ls : List Int) (d : Dr) : Prop := piecesV Tryz.prog (envQ ls 2 d) (run (envQ ls 2 d)) 1 103 lawPre (fE ls) gH [] fun x F H wr => x = .normal /\ codeV Tryz.prog (envQ ls 2 d) (run (envQ ls 2 d)) 1 103 lawR13 F H wr fun x F H wr => x = .normal /\ tidyV 103 1 gH [4, 5, 9] F H wr fun ss H' => ss = sP20 /\ H' = hP20 d
def preA2 (ls : List Int) (d : Dr) : Prop := ((2 : Int) = 2 /\ chs ls 0 = chs ls 0) /\ ((2 : Int) = 2 /\ chs ls 1 = chs ls 1) /\ d.an < d.ad /\ SX.normal = SX.normal /\ SX.normal = SX.normal /\ sP20 = sP20 /\ hP20 d = hP20 d
theorem pre2 (ls : List Int) (d : Dr) : preQ2 ls d = preA2 ls d := by kernel_rfl
def zeroQ2 (ls : List Int) (d : Dr) : Prop := codeV Tryz.prog (envQ ls 2 d) (run (envQ ls 2 d)) 1 103 lawLoop fP20 (hP20 d) [] fun x F H wr => x = .normal /\ tidyV 103 1 gH [4, 5, 9] F H wr fun ss H' => ss = sP21 /\ H' = hP21 d
def zeroA2 (d : Dr) : Prop := SX.normal = SX.normal /\ sP21 = sP21 /\ hP21 d = hP21 d
theorem zero2 (ls : List Int) (d : Dr) : zeroQ2 ls d = zeroA2 d := by kernel_rfl
end Go.Proofs.YtbppedokdfmnoaaGreatDoor

namespace Go.Proofs.YtbppedokdfmnoaaGreatDoor
open Go.Sx
set_option maxRecDepth 100000 in
theorem first2 (d : Dr) : HWk (bP21 d) (bS2 d 1 0 6 2952069120 4096 5562 1 pk0 lf0 od0 lg0) := by
 unfold bP21 bS2
 refine .cons (by exact BW.refl) ?_
 refine .cons (by exact BW.rowGap (l := [[.int .i64 0, .int .i64 1, .int .i64 0, .int .i64 1, .int .i64 0, .int .i64 4096], [.int .i64 0, .int .i64 1, .int .i64 0, .int .i64 2, .int .i64 0, .int .i64 4096], [.int .i64 0, .int .i64 8, .int .i64 0, .int .i64 0, .int .i64 0, .int .i64 1], [.int .i64 0, .int .i64 5, .int .i64 0, .int .i64 0, .int .i64 1, .int .i64 0], [.int .i64 0, .int .i64 3, .int .i64 0, .int .i64 1, .int .i64 0, .int .i64 1], [.int .i64 0, .int .i64 4, .int .i64 0, .int .i64 1, .int .i64 0, .int .i64 0]]) (RWs.cons SWs.refl (RWs.cons SWs.refl (RWs.cons SWs.refl (RWs.cons SWs.refl (RWs.cons SWs.refl (RWs.cons SWs.refl RWs.nil)))))) (by decide) (by decide) (by decide)) ?_
 refine .cons (by exact BW.refl) ?_
 refine .cons (by exact BW.refl) ?_
 refine .cons (by exact BW.refl) ?_
 refine .cons (by exact BW.mapB1 (.refl) (.agg (SWs.cons (.refl) (SWs.cons (.refl) (SWs.cons (.intB (by decide) (by decide) (by decide)) SWs.refl))))) ?_
 refine .cons (by exact BW.fix (SWs.cons (.refl) (SWs.cons (.refl) (SWs.cons (.refl) (SWs.cons (.intB (by decide) (by decide) (by decide)) SWs.refl))))) ?_
 refine .cons (by exact BW.refl) ?_
 refine .cons (by exact BW.rowGap (l := [[.int .i64 1, .int .i64 0, .int .i64 4096, .int .i64 0, .int .i64 (-1)], [.int .i64 2, .int .i64 0, .int .i64 4096, .int .i64 0, .int .i64 (-1)]]) (RWs.cons SWs.refl (RWs.cons (SWs.cons (.intB (by decide) (by decide) (by decide)) (SWs.cons (.refl) (SWs.cons (.refl) (SWs.cons (.intB (by decide) (by decide) (by decide)) SWs.refl)))) RWs.nil)) (by decide) (by decide) (by decide)) ?_
 refine .cons (by exact BW.rowGap (l := [[.int .i64 1]]) (RWs.cons (SWs.cons (.intB (by decide) (by decide) (by decide)) SWs.refl) RWs.nil) (by decide) (by decide) (by decide)) ?_
 refine .cons (by exact BW.rowGap (l := [[.int .i64 0, .int .i64 4096, .int .i64 3, .int .i64 0], [.int .i64 0, .int .i64 4096, .int .i64 1, .int .i64 0]]) (RWs.cons SWs.refl (RWs.cons SWs.refl RWs.nil)) (by decide) (by decide) (by decide)) ?_
 refine .cons (by exact BW.fix (SWs.cons (.refl) (SWs.cons (.refl) (SWs.cons (.intB (by decide) (by decide) (by decide)) (SWs.cons (.intB (by decide) (by decide) (by decide)) (SWs.cons (.refl) (SWs.cons (.intB (by decide) (by decide) (by decide)) SWs.refl))))))) ?_
 refine .cons (by exact BW.refl) ?_
 refine .cons (by exact BW.fix (SWs.cons (.refl) (SWs.cons (.intB (by decide) (by decide) (by decide)) SWs.refl))) ?_
 refine .cons (by exact BW.fix (SWs.cons (.refl) (SWs.cons (.refl) (SWs.cons (.intB (by decide) (by decide) (by decide)) SWs.refl)))) ?_
 refine .cons (by exact BW.fix chan_first) ?_
 refine .cons (by exact BW.fix (SWs.cons (.refl) (SWs.cons (.refl) (SWs.cons (.refl) (SWs.cons (.intB (by decide) (by decide) (by decide)) (SWs.cons (.intB (by decide) (by decide) (by decide)) SWs.refl)))))) ?_
 refine .cons (by exact BW.refl) ?_
 refine .cons (by exact BW.row (RWs.cons (SWs.cons (.intB (by decide) (by decide) (by decide)) (SWs.cons (.refl) (SWs.cons (.refl) (SWs.cons (.intB (by decide) (by decide) (by decide)) SWs.refl)))) (RWs.cons SWs.refl RWs.nil))) ?_
 refine .cons (by exact BW.refl) ?_
 refine .cons (by exact BW.refl) ?_
 refine .cons (by exact BW.refl) ?_
 refine .cons (by exact BW.refl) ?_
 refine .cons (by exact BW.refl) ?_
 refine .cons (by exact BW.refl) ?_
 refine .cons (by exact BW.refl) ?_
 refine .cons (by exact BW.refl) ?_
 refine .cons (by exact BW.refl) ?_
 refine .cons (by exact BW.fix (SWs.cons (.refl) (SWs.cons (.refl) (SWs.cons (.refl) (SWs.cons (.refl) (SWs.cons (.refl) (SWs.cons (.refl) (SWs.cons (.refl) (SWs.cons (.refl) (SWs.cons (.refl) (SWs.cons (.refl) (SWs.cons (.refl) (SWs.cons (.refl) (SWs.cons (.refl) (SWs.cons (.refl) (SWs.cons (.refl) (SWs.cons (.refl) (SWs.cons (.intB (by decide) (by decide) (by decide)) SWs.refl)))))))))))))))))) ?_
 refine .cons (by exact BW.refl) ?_
 exact .nil
end Go.Proofs.YtbppedokdfmnoaaGreatDoor

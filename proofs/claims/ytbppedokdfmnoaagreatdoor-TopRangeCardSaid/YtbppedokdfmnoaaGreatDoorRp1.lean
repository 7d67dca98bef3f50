/- Part of the executor and its soundness, or of what it is told of this seat's program. No statement of the seat is proved here. -/
import Derived.Test.YtbppedokdfmnoaaGreatDoorRe
import Derived.Test.YtbppedokdfmnoaaGreatDoorRs1
set_option linter.unusedSimpArgs false
set_option linter.unusedVariables false
namespace Go.Proofs.YtbppedokdfmnoaaGreatDoor
open Go.Sx
noncomputable def hP10 (d : Dr) : HW := hwT 36 ⟨⟨.glob 0 457 pow10,
 .row 90 6 [[.int .i64 0, .int .i64 1, .int .i64 0, .int .i64 1, .int .i64 0, .int .i64 4096]],
 .mapB [] 0,
 .mapB [] 0,
 .mapB [] 0,
 .fix 259 [.int .i64 1099511627776, .mp 4, .mp 3, .int .i64 0],
 .mapB [] 0,
 .mapB [] 0,
 .fix 259 [.int .i64 1099511627776, .mp 7, .mp 6, .int .i64 0],
 .mapB [] 0,
 .fix 257 [.mp 9],
 .mapB [] 0,
 .mapB [] 0,
 .fix 254 [.int .i64 1099511627776, .mp 12, .mp 11, .int .i64 0, .int .i64 0],
 .fix 171 [.iv .i64 d.1 1 1048575 1 0, .iv .i64 d.2 2 1048576 1 0, .ptr 13 0, .ptr 10 0, .ptr 8 0, .ptr 5 0, .mp 2],
 .row 188 5 [[.int .i64 1, .int .i64 0, .int .i64 4096, .int .i64 0, .int .i64 (-1)]]⟩,
 ⟨.row 303 4 [[.int .i64 0, .int .i64 4096, .int .i64 1, .int .i64 0]],
 .fix 110 (.sl 16 :: .int .i64 0 :: .int .i64 1 :: .int .i64 0 :: .int .i64 0 :: .int .i64 0 :: .int .i64 0 :: .nils :: flZ 31),
 .mapB [] 0,
 .fix 309 [.iv .i64 d.6 1 64 1 0, .int .i64 0, .mp 18],
 .fix 307 [.iv .i64 d.6 1 64 1 0, .iv .i64 d.5 1 4 1 0, .int .i64 0, .nils],
 .fix 299 [.int .i64 0, .int .i64 0, .int .i64 0, .ff, .ff, .ff, .ff, .ff, .ff, .ff, .ff, .ff, .ff, .ff, .ff, .ff, .ff, .ff, .ff, .ff, .ff, .ff, .ff, .ff, .ff, .ff, .ff, .ff, .ff, .ff, .ff, .ff, .ff, .ff, .ff, .int .i64 0, .int .i64 0, .ff, .ff],
 .fix 199 [.ptr 21 0, .ptr 20 0, .ptr 19 0, .int .i64 0, .int .i64 0],
 .prow 194 1 [[.ptr 22 0]],
 .row 188 5 [[.int .i64 1, .int .i64 0, .int .i64 4096, .int .i64 0, .int .i64 (-1)]],
 .fix 222 [.int .i64 64, .int .i64 262144, .sl 24, .int .i64 4096],
 .prow 133 1 [[.ptr 25 0]],
 .row 82 5 [[.str [], .int .i64 (-1), .int .i64 0, .int .i64 0, .int .i64 0]],
 .fix 185 [.int .i64 0, .int .i64 0, .int .i64 1, .int .i64 64, .int .i64 262144, .int .i64 1099511627776, .int .i64 1099511627776],
 .prow 219 1 [[.ptr 28 0]],
 .mapB [(.str [115, 97], (.int .i64 0, 0))] 1,
 .row 305 4 [[.int .i64 0, .str [115, 97], .int .i64 1, .int .i64 0]]⟩,
 ⟨.fix 102 [.int .i64 512, .int .i64 2, .sl 31, .mp 30, .sl 29, .int .i64 1],
 .row 61 2 [[.int .i64 6000, .int .i64 100], [.int .i64 54000, .int .i64 50]],
 .fix 76 [.int .i64 1, .iv .i64 d.1 1 1048575 1 0, .iv .i64 d.2 2 1048576 1 0, .int .i64 0, .int .i64 0, .int .i64 0, .iv .i64 d.3 1 4 1 0, .iv .i64 d.4 4096 8096 1 0, .int .i64 1048576, .iv .i64 d.5 1 4 1 0, .iv .i64 d.6 1 64 1 0, .iv .i64 d.7 256 5000 1 0, .int .i64 512, .int .i64 1099511627776, .sl 33, .int .i64 1, .int .i64 0, .int .i64 0, .ff, .int .i64 0, .ptr 32 0, .sl 27, .sl 26, .sl 23, .ptr 17 0, .sl 15, .ifc 115 (.agg [.ptr 14 0]), .nils, .sl 1],
 .fix 33 [.int .i64 1, .iv .i64 d.1 1 1048575 1 0, .iv .i64 d.2 2 1048576 1 0, .int .i64 0, .int .i64 0, .int .i64 0, .iv .i64 d.3 1 4 1 0, .iv .i64 d.4 4096 8096 1 0, .int .i64 1048576, .iv .i64 d.5 1 4 1 0, .iv .i64 d.6 1 64 1 0, .iv .i64 d.7 256 5000 1 0, .int .i64 512, .int .i64 1099511627776, .rs 2 [[.int .i64 6000, .int .i64 100], [.int .i64 54000, .int .i64 50]]],
 .dead,
 .dead,
 .dead,
 .dead,
 .dead,
 .dead,
 .dead,
 .dead,
 .dead,
 .dead,
 .dead,
 .dead⟩,
 R16.rep .dead,
 R16.rep .dead,
 R16.rep .dead,
 R16.rep .dead,
 R16.rep .dead,
 R16.rep .dead,
 R16.rep .dead,
 R16.rep .dead,
 R16.rep .dead,
 R16.rep .dead,
 R16.rep .dead,
 R16.rep .dead,
 R16.rep .dead⟩
noncomputable def bP10 (d : Dr) : Hp := [.glob 0 457 pow10,
 .row 90 6 [[.int .i64 0, .int .i64 1, .int .i64 0, .int .i64 1, .int .i64 0, .int .i64 4096]],
 .mapB [] 0,
 .mapB [] 0,
 .mapB [] 0,
 .fix 259 [.int .i64 1099511627776, .mp 4, .mp 3, .int .i64 0],
 .mapB [] 0,
 .mapB [] 0,
 .fix 259 [.int .i64 1099511627776, .mp 7, .mp 6, .int .i64 0],
 .mapB [] 0,
 .fix 257 [.mp 9],
 .mapB [] 0,
 .mapB [] 0,
 .fix 254 [.int .i64 1099511627776, .mp 12, .mp 11, .int .i64 0, .int .i64 0],
 .fix 171 [.iv .i64 d.1 1 1048575 1 0, .iv .i64 d.2 2 1048576 1 0, .ptr 13 0, .ptr 10 0, .ptr 8 0, .ptr 5 0, .mp 2],
 .row 188 5 [[.int .i64 1, .int .i64 0, .int .i64 4096, .int .i64 0, .int .i64 (-1)]],
 .row 303 4 [[.int .i64 0, .int .i64 4096, .int .i64 1, .int .i64 0]],
 .fix 110 (.sl 16 :: .int .i64 0 :: .int .i64 1 :: .int .i64 0 :: .int .i64 0 :: .int .i64 0 :: .int .i64 0 :: .nils :: flZ 31),
 .mapB [] 0,
 .fix 309 [.iv .i64 d.6 1 64 1 0, .int .i64 0, .mp 18],
 .fix 307 [.iv .i64 d.6 1 64 1 0, .iv .i64 d.5 1 4 1 0, .int .i64 0, .nils],
 .fix 299 [.int .i64 0, .int .i64 0, .int .i64 0, .ff, .ff, .ff, .ff, .ff, .ff, .ff, .ff, .ff, .ff, .ff, .ff, .ff, .ff, .ff, .ff, .ff, .ff, .ff, .ff, .ff, .ff, .ff, .ff, .ff, .ff, .ff, .ff, .ff, .ff, .ff, .ff, .int .i64 0, .int .i64 0, .ff, .ff],
 .fix 199 [.ptr 21 0, .ptr 20 0, .ptr 19 0, .int .i64 0, .int .i64 0],
 .prow 194 1 [[.ptr 22 0]],
 .row 188 5 [[.int .i64 1, .int .i64 0, .int .i64 4096, .int .i64 0, .int .i64 (-1)]],
 .fix 222 [.int .i64 64, .int .i64 262144, .sl 24, .int .i64 4096],
 .prow 133 1 [[.ptr 25 0]],
 .row 82 5 [[.str [], .int .i64 (-1), .int .i64 0, .int .i64 0, .int .i64 0]],
 .fix 185 [.int .i64 0, .int .i64 0, .int .i64 1, .int .i64 64, .int .i64 262144, .int .i64 1099511627776, .int .i64 1099511627776],
 .prow 219 1 [[.ptr 28 0]],
 .mapB [(.str [115, 97], (.int .i64 0, 0))] 1,
 .row 305 4 [[.int .i64 0, .str [115, 97], .int .i64 1, .int .i64 0]],
 .fix 102 [.int .i64 512, .int .i64 2, .sl 31, .mp 30, .sl 29, .int .i64 1],
 .row 61 2 [[.int .i64 6000, .int .i64 100], [.int .i64 54000, .int .i64 50]],
 .fix 76 [.int .i64 1, .iv .i64 d.1 1 1048575 1 0, .iv .i64 d.2 2 1048576 1 0, .int .i64 0, .int .i64 0, .int .i64 0, .iv .i64 d.3 1 4 1 0, .iv .i64 d.4 4096 8096 1 0, .int .i64 1048576, .iv .i64 d.5 1 4 1 0, .iv .i64 d.6 1 64 1 0, .iv .i64 d.7 256 5000 1 0, .int .i64 512, .int .i64 1099511627776, .sl 33, .int .i64 1, .int .i64 0, .int .i64 0, .ff, .int .i64 0, .ptr 32 0, .sl 27, .sl 26, .sl 23, .ptr 17 0, .sl 15, .ifc 115 (.agg [.ptr 14 0]), .nils, .sl 1],
 .fix 33 [.int .i64 1, .iv .i64 d.1 1 1048575 1 0, .iv .i64 d.2 2 1048576 1 0, .int .i64 0, .int .i64 0, .int .i64 0, .iv .i64 d.3 1 4 1 0, .iv .i64 d.4 4096 8096 1 0, .int .i64 1048576, .iv .i64 d.5 1 4 1 0, .iv .i64 d.6 1 64 1 0, .iv .i64 d.7 256 5000 1 0, .int .i64 512, .int .i64 1099511627776, .rs 2 [[.int .i64 6000, .int .i64 100], [.int .i64 54000, .int .i64 50]]]]
noncomputable def sP10 : List SV := [.ptr 35 0, .ptr 34 0, .int .i64 0]
noncomputable def fP10 : FW := fwT ⟨.any, .any, .any, .any, .ptr 35 0, .ptr 34 0, .any, .any, .any, .int .i64 0, .any, .any, .any, .any, .any, .any⟩
noncomputable def hP11 (d : Dr) : HW := hwT 38 ⟨⟨.glob 0 457 pow10,
 .row 90 6 [[.int .i64 0, .int .i64 1, .int .i64 0, .int .i64 1, .int .i64 0, .int .i64 4096], [.int .i64 0, .int .i64 1, .int .i64 0, .int .i64 2, .int .i64 0, .int .i64 4096], [.int .i64 0, .int .i64 8, .int .i64 0, .int .i64 0, .int .i64 0, .int .i64 1], [.int .i64 0, .int .i64 5, .int .i64 0, .int .i64 0, .int .i64 1, .int .i64 0], [.int .i64 0, .int .i64 3, .int .i64 0, .int .i64 1, .int .i64 0, .int .i64 1], [.int .i64 0, .int .i64 4, .int .i64 0, .int .i64 1, .int .i64 0, .int .i64 0]],
 .row 3 1 [[.int .i64 0]],
 .mapB [] 0,
 .mapB [(.int .i64 0, (.int .i64 0, 0))] 1,
 .mapB [(.int .i64 0, (.int .i64 1, 0))] 1,
 .fix 259 [.int .i64 1099511627776, .mp 5, .mp 4, .int .i64 0],
 .mapB [] 0,
 .mapB [] 0,
 .fix 259 [.int .i64 1099511627776, .mp 8, .mp 7, .int .i64 0],
 .mapB [(.int .i64 0, (.agg [.int .i64 1, .int .i64 0], 0))] 1,
 .fix 257 [.mp 10],
 .mapB [] 0,
 .mapB [(.int .i64 0, (.agg [.int .i64 0, .int .i64 1, .int .i64 2952069120], 0))] 1,
 .fix 254 [.int .i64 1099511627776, .mp 13, .mp 12, .int .i64 0, .int .i64 0],
 .fix 171 [.iv .i64 d.1 1 1048575 1 0, .iv .i64 d.2 2 1048576 1 0, .ptr 14 0, .ptr 11 0, .ptr 9 0, .ptr 6 0, .mp 3]⟩,
 ⟨.row 188 5 [[.int .i64 1, .int .i64 0, .int .i64 4096, .int .i64 0, .int .i64 (-1)], [.int .i64 2, .int .i64 0, .int .i64 4096, .int .i64 0, .int .i64 (-1)]],
 .row 3 1 [[.int .i64 1]],
 .row 303 4 [[.int .i64 0, .int .i64 4096, .int .i64 3, .int .i64 0], [.int .i64 0, .int .i64 4096, .int .i64 1, .int .i64 0]],
 .fix 110 (.sl 18 :: .int .i64 0 :: .int .i64 2 :: .int .i64 1 :: .int .i64 0 :: .int .i64 4096 :: .int .i64 0 :: .sl 17 :: flZ 31),
 .mapB [] 1,
 .fix 309 [.iv .i64 d.6 1 64 1 0, .int .i64 1, .mp 20],
 .fix 307 [.iv .i64 d.6 1 64 1 0, .iv .i64 d.5 1 4 1 0, .int .i64 1, .nils],
 .fix 299 [.int .i64 0, .int .i64 0, .int .i64 0, .tt, .ff, .ff, .ff, .ff, .ff, .ff, .ff, .ff, .ff, .ff, .ff, .ff, .ff, .ff, .ff, .ff, .ff, .ff, .ff, .ff, .ff, .ff, .ff, .ff, .ff, .ff, .ff, .ff, .ff, .ff, .ff, .int .i64 1, .int .i64 1, .ff, .ff],
 .fix 199 [.ptr 23 0, .ptr 22 0, .ptr 21 0, .int .i64 1, .int .i64 5562],
 .prow 194 1 [[.ptr 24 0]],
 .row 188 5 [[.int .i64 2, .int .i64 0, .int .i64 4096, .int .i64 0, .int .i64 (-1)], [.int .i64 0, .int .i64 0, .int .i64 0, .int .i64 0, .int .i64 0]],
 .fix 222 [.int .i64 64, .int .i64 262144, .ss 26 0 1, .int .i64 4096],
 .prow 133 1 [[.ptr 27 0]],
 .row 82 5 [[.str [], .int .i64 (-1), .int .i64 0, .int .i64 0, .int .i64 0]],
 .fix 185 [.int .i64 0, .int .i64 0, .int .i64 1, .int .i64 64, .int .i64 262144, .int .i64 1099511627776, .int .i64 1099511627776],
 .prow 219 1 [[.ptr 30 0]]⟩,
 ⟨.mapB [(.str [115, 97], (.int .i64 0, 0))] 1,
 .row 305 4 [[.int .i64 0, .str [115, 97], .int .i64 1, .int .i64 0]],
 .fix 102 [.int .i64 512, .int .i64 2, .sl 33, .mp 32, .sl 31, .int .i64 1],
 .row 61 2 [[.int .i64 6000, .int .i64 100], [.int .i64 54000, .int .i64 50]],
 .fix 76 [.int .i64 1, .iv .i64 d.1 1 1048575 1 0, .iv .i64 d.2 2 1048576 1 0, .int .i64 0, .int .i64 0, .int .i64 0, .iv .i64 d.3 1 4 1 0, .iv .i64 d.4 4096 8096 1 0, .int .i64 1048576, .iv .i64 d.5 1 4 1 0, .iv .i64 d.6 1 64 1 0, .iv .i64 d.7 256 5000 1 0, .int .i64 512, .int .i64 1099511627776, .sl 35, .int .i64 1, .int .i64 1, .int .i64 0, .ff, .int .i64 0, .ptr 34 0, .sl 29, .sl 28, .sl 25, .ptr 19 0, .sl 16, .ifc 115 (.agg [.ptr 15 0]), .sl 2, .sl 1],
 .fix 33 [.int .i64 1, .iv .i64 d.1 1 1048575 1 0, .iv .i64 d.2 2 1048576 1 0, .int .i64 0, .int .i64 0, .int .i64 0, .iv .i64 d.3 1 4 1 0, .iv .i64 d.4 4096 8096 1 0, .int .i64 1048576, .iv .i64 d.5 1 4 1 0, .iv .i64 d.6 1 64 1 0, .iv .i64 d.7 256 5000 1 0, .int .i64 512, .int .i64 1099511627776, .rs 2 [[.int .i64 6000, .int .i64 100], [.int .i64 54000, .int .i64 50]]],
 .dead,
 .dead,
 .dead,
 .dead,
 .dead,
 .dead,
 .dead,
 .dead,
 .dead,
 .dead⟩,
 R16.rep .dead,
 R16.rep .dead,
 R16.rep .dead,
 R16.rep .dead,
 R16.rep .dead,
 R16.rep .dead,
 R16.rep .dead,
 R16.rep .dead,
 R16.rep .dead,
 R16.rep .dead,
 R16.rep .dead,
 R16.rep .dead,
 R16.rep .dead⟩
noncomputable def bP11 (d : Dr) : Hp := [.glob 0 457 pow10,
 .row 90 6 [[.int .i64 0, .int .i64 1, .int .i64 0, .int .i64 1, .int .i64 0, .int .i64 4096], [.int .i64 0, .int .i64 1, .int .i64 0, .int .i64 2, .int .i64 0, .int .i64 4096], [.int .i64 0, .int .i64 8, .int .i64 0, .int .i64 0, .int .i64 0, .int .i64 1], [.int .i64 0, .int .i64 5, .int .i64 0, .int .i64 0, .int .i64 1, .int .i64 0], [.int .i64 0, .int .i64 3, .int .i64 0, .int .i64 1, .int .i64 0, .int .i64 1], [.int .i64 0, .int .i64 4, .int .i64 0, .int .i64 1, .int .i64 0, .int .i64 0]],
 .row 3 1 [[.int .i64 0]],
 .mapB [] 0,
 .mapB [(.int .i64 0, (.int .i64 0, 0))] 1,
 .mapB [(.int .i64 0, (.int .i64 1, 0))] 1,
 .fix 259 [.int .i64 1099511627776, .mp 5, .mp 4, .int .i64 0],
 .mapB [] 0,
 .mapB [] 0,
 .fix 259 [.int .i64 1099511627776, .mp 8, .mp 7, .int .i64 0],
 .mapB [(.int .i64 0, (.agg [.int .i64 1, .int .i64 0], 0))] 1,
 .fix 257 [.mp 10],
 .mapB [] 0,
 .mapB [(.int .i64 0, (.agg [.int .i64 0, .int .i64 1, .int .i64 2952069120], 0))] 1,
 .fix 254 [.int .i64 1099511627776, .mp 13, .mp 12, .int .i64 0, .int .i64 0],
 .fix 171 [.iv .i64 d.1 1 1048575 1 0, .iv .i64 d.2 2 1048576 1 0, .ptr 14 0, .ptr 11 0, .ptr 9 0, .ptr 6 0, .mp 3],
 .row 188 5 [[.int .i64 1, .int .i64 0, .int .i64 4096, .int .i64 0, .int .i64 (-1)], [.int .i64 2, .int .i64 0, .int .i64 4096, .int .i64 0, .int .i64 (-1)]],
 .row 3 1 [[.int .i64 1]],
 .row 303 4 [[.int .i64 0, .int .i64 4096, .int .i64 3, .int .i64 0], [.int .i64 0, .int .i64 4096, .int .i64 1, .int .i64 0]],
 .fix 110 (.sl 18 :: .int .i64 0 :: .int .i64 2 :: .int .i64 1 :: .int .i64 0 :: .int .i64 4096 :: .int .i64 0 :: .sl 17 :: flZ 31),
 .mapB [] 1,
 .fix 309 [.iv .i64 d.6 1 64 1 0, .int .i64 1, .mp 20],
 .fix 307 [.iv .i64 d.6 1 64 1 0, .iv .i64 d.5 1 4 1 0, .int .i64 1, .nils],
 .fix 299 [.int .i64 0, .int .i64 0, .int .i64 0, .tt, .ff, .ff, .ff, .ff, .ff, .ff, .ff, .ff, .ff, .ff, .ff, .ff, .ff, .ff, .ff, .ff, .ff, .ff, .ff, .ff, .ff, .ff, .ff, .ff, .ff, .ff, .ff, .ff, .ff, .ff, .ff, .int .i64 1, .int .i64 1, .ff, .ff],
 .fix 199 [.ptr 23 0, .ptr 22 0, .ptr 21 0, .int .i64 1, .int .i64 5562],
 .prow 194 1 [[.ptr 24 0]],
 .row 188 5 [[.int .i64 2, .int .i64 0, .int .i64 4096, .int .i64 0, .int .i64 (-1)], [.int .i64 0, .int .i64 0, .int .i64 0, .int .i64 0, .int .i64 0]],
 .fix 222 [.int .i64 64, .int .i64 262144, .ss 26 0 1, .int .i64 4096],
 .prow 133 1 [[.ptr 27 0]],
 .row 82 5 [[.str [], .int .i64 (-1), .int .i64 0, .int .i64 0, .int .i64 0]],
 .fix 185 [.int .i64 0, .int .i64 0, .int .i64 1, .int .i64 64, .int .i64 262144, .int .i64 1099511627776, .int .i64 1099511627776],
 .prow 219 1 [[.ptr 30 0]],
 .mapB [(.str [115, 97], (.int .i64 0, 0))] 1,
 .row 305 4 [[.int .i64 0, .str [115, 97], .int .i64 1, .int .i64 0]],
 .fix 102 [.int .i64 512, .int .i64 2, .sl 33, .mp 32, .sl 31, .int .i64 1],
 .row 61 2 [[.int .i64 6000, .int .i64 100], [.int .i64 54000, .int .i64 50]],
 .fix 76 [.int .i64 1, .iv .i64 d.1 1 1048575 1 0, .iv .i64 d.2 2 1048576 1 0, .int .i64 0, .int .i64 0, .int .i64 0, .iv .i64 d.3 1 4 1 0, .iv .i64 d.4 4096 8096 1 0, .int .i64 1048576, .iv .i64 d.5 1 4 1 0, .iv .i64 d.6 1 64 1 0, .iv .i64 d.7 256 5000 1 0, .int .i64 512, .int .i64 1099511627776, .sl 35, .int .i64 1, .int .i64 1, .int .i64 0, .ff, .int .i64 0, .ptr 34 0, .sl 29, .sl 28, .sl 25, .ptr 19 0, .sl 16, .ifc 115 (.agg [.ptr 15 0]), .sl 2, .sl 1],
 .fix 33 [.int .i64 1, .iv .i64 d.1 1 1048575 1 0, .iv .i64 d.2 2 1048576 1 0, .int .i64 0, .int .i64 0, .int .i64 0, .iv .i64 d.3 1 4 1 0, .iv .i64 d.4 4096 8096 1 0, .int .i64 1048576, .iv .i64 d.5 1 4 1 0, .iv .i64 d.6 1 64 1 0, .iv .i64 d.7 256 5000 1 0, .int .i64 512, .int .i64 1099511627776, .rs 2 [[.int .i64 6000, .int .i64 100], [.int .i64 54000, .int .i64 50]]]]
noncomputable def sP11 : List SV := [.ptr 37 0, .ptr 36 0, .int .i64 1]
def preQ1 (ls : List Int) (d : Dr) : Prop := piecesV Tryz.prog (envQ ls 1 d) (run (envQ ls 1 d)) 1 103 lawPre (fE ls) gH [] fun x F H wr => x = .normal /\ codeV Tryz.prog (envQ ls 1 d) (run (envQ ls 1 d)) 1 103 lawR13 F H wr fun x F H wr => x = .normal /\ tidyV 103 1 gH [4, 5, 9] F H wr fun ss H' => ss = sP10 /\ H' = hP10 d
def preA1 (ls : List Int) (d : Dr) : Prop := ((2 : Int) = 2 /\ chs ls 0 = chs ls 0) /\ ((1 : Int) = 1 /\ chs ls 1 = chs ls 1) /\ d.an < d.ad /\ d.an < d.ad /\ SX.normal = SX.normal /\ SX.normal = SX.normal /\ sP10 = sP10 /\ hP10 d = hP10 d
theorem pre1 (ls : List Int) (d : Dr) : preQ1 ls d = preA1 ls d := by kernel_rfl
def zeroQ1 (ls : List Int) (d : Dr) : Prop := codeV Tryz.prog (envQ ls 1 d) (run (envQ ls 1 d)) 1 103 lawLoop fP10 (hP10 d) [] fun x F H wr => x = .normal /\ tidyV 103 1 gH [4, 5, 9] F H wr fun ss H' => ss = sP11 /\ H' = hP11 d
def zeroA1 (d : Dr) : Prop := SX.normal = SX.normal /\ sP11 = sP11 /\ hP11 d = hP11 d
theorem zero1 (ls : List Int) (d : Dr) : zeroQ1 ls d = zeroA1 d := by kernel_rfl
end Go.Proofs.YtbppedokdfmnoaaGreatDoor

namespace Go.Proofs.YtbppedokdfmnoaaGreatDoor
open Go.Sx
set_option maxRecDepth 100000 in
theorem first1 (d : Dr) : HWk (bP11 d) (bS1 d 1 0 6 2952069120 4096 5562 1 pk0 lf0 od0 lg0) := by
 unfold bP11 bS1
 refine .cons (by exact BW.refl) ?_
 refine .cons (by exact BW.rowGap (l := [[.int .i64 0, .int .i64 1, .int .i64 0, .int .i64 1, .int .i64 0, .int .i64 4096], [.int .i64 0, .int .i64 1, .int .i64 0, .int .i64 2, .int .i64 0, .int .i64 4096], [.int .i64 0, .int .i64 8, .int .i64 0, .int .i64 0, .int .i64 0, .int .i64 1], [.int .i64 0, .int .i64 5, .int .i64 0, .int .i64 0, .int .i64 1, .int .i64 0], [.int .i64 0, .int .i64 3, .int .i64 0, .int .i64 1, .int .i64 0, .int .i64 1], [.int .i64 0, .int .i64 4, .int .i64 0, .int .i64 1, .int .i64 0, .int .i64 0]]) (RWs.cons SWs.refl (RWs.cons SWs.refl (RWs.cons SWs.refl (RWs.cons SWs.refl (RWs.cons SWs.refl (RWs.cons SWs.refl RWs.nil)))))) (by decide) (by decide) (by decide)) ?_
 refine .cons (by exact BW.refl) ?_
 refine .cons (by exact BW.refl) ?_
 refine .cons (by exact BW.refl) ?_
 refine .cons (by exact BW.refl) ?_
 refine .cons (by exact BW.refl) ?_
 refine .cons (by exact BW.refl) ?_
 refine .cons (by exact BW.refl) ?_
 refine .cons (by exact BW.refl) ?_
 refine .cons (by exact BW.refl) ?_
 refine .cons (by exact BW.refl) ?_
 refine .cons (by exact BW.refl) ?_
 refine .cons (by exact BW.mapB1 (.refl) (.agg (SWs.cons (.refl) (SWs.cons (.refl) (SWs.cons (.intB (by decide) (by decide) (by decide)) SWs.refl))))) ?_
 refine .cons (by exact BW.fix (SWs.cons (.refl) (SWs.cons (.refl) (SWs.cons (.refl) (SWs.cons (.intB (by decide) (by decide) (by decide)) SWs.refl))))) ?_
 refine .cons (by exact BW.refl) ?_
 refine .cons (by exact BW.rowGap (l := [[.int .i64 1, .int .i64 0, .int .i64 4096, .int .i64 0, .int .i64 (-1)], [.int .i64 2, .int .i64 0, .int .i64 4096, .int .i64 0, .int .i64 (-1)]]) (RWs.cons SWs.refl (RWs.cons (SWs.cons (.intB (by decide) (by decide) (by decide)) (SWs.cons (.refl) (SWs.cons (.refl) (SWs.cons (.intB (by decide) (by decide) (by decide)) SWs.refl)))) RWs.nil)) (by decide) (by decide) (by decide)) ?_
 refine .cons (by exact BW.rowGap (l := [[.int .i64 1]]) (RWs.cons (SWs.cons (.intB (by decide) (by decide) (by decide)) SWs.refl) RWs.nil) (by decide) (by decide) (by decide)) ?_
 refine .cons (by exact BW.rowGap (l := [[.int .i64 0, .int .i64 4096, .int .i64 3, .int .i64 0], [.int .i64 0, .int .i64 4096, .int .i64 1, .int .i64 0]]) (RWs.cons SWs.refl (RWs.cons SWs.refl RWs.nil)) (by decide) (by decide) (by decide)) ?_
 refine .cons (by exact BW.fix (SWs.cons (.refl) (SWs.cons (.refl) (SWs.cons (.intB (by decide) (by decide) (by decide)) (SWs.cons (.intB (by decide) (by decide) (by decide)) (SWs.cons (.refl) (SWs.cons (.intB (by decide) (by decide) (by decide)) SWs.refl))))))) ?_
 refine .cons (by exact BW.refl) ?_
 refine .cons (by exact BW.fix (SWs.cons (.refl) (SWs.cons (.intB (by decide) (by decide) (by decide)) SWs.refl))) ?_
 refine .cons (by exact BW.fix (SWs.cons (.refl) (SWs.cons (.refl) (SWs.cons (.intB (by decide) (by decide) (by decide)) SWs.refl)))) ?_
 refine .cons (by exact BW.fix chan_first) ?_
 refine .cons (by exact BW.fix (SWs.cons (.refl) (SWs.cons (.refl) (SWs.cons (.refl) (SWs.cons (.intB (by decide) (by decide) (by decide)) (SWs.cons (.intB (by decide) (by decide) (by decide)) SWs.refl)))))) ?_
 refine .cons (by exact BW.refl) ?_
 refine .cons (by exact BW.row (RWs.cons (SWs.cons (.intB (by decide) (by decide) (by decide)) (SWs.cons (.refl) (SWs.cons (.refl) (SWs.cons (.intB (by decide) (by decide) (by decide)) SWs.refl)))) (RWs.cons SWs.refl RWs.nil))) ?_
 refine .cons (by exact BW.refl) ?_
 refine .cons (by exact BW.refl) ?_
 refine .cons (by exact BW.refl) ?_
 refine .cons (by exact BW.refl) ?_
 refine .cons (by exact BW.refl) ?_
 refine .cons (by exact BW.refl) ?_
 refine .cons (by exact BW.refl) ?_
 refine .cons (by exact BW.refl) ?_
 refine .cons (by exact BW.refl) ?_
 refine .cons (by exact BW.fix (SWs.cons (.refl) (SWs.cons (.refl) (SWs.cons (.refl) (SWs.cons (.refl) (SWs.cons (.refl) (SWs.cons (.refl) (SWs.cons (.refl) (SWs.cons (.refl) (SWs.cons (.refl) (SWs.cons (.refl) (SWs.cons (.refl) (SWs.cons (.refl) (SWs.cons (.refl) (SWs.cons (.refl) (SWs.cons (.refl) (SWs.cons (.refl) (SWs.cons (.intB (by decide) (by decide) (by decide)) SWs.refl)))))))))))))))))) ?_
 refine .cons (by exact BW.refl) ?_
 exact .nil
end Go.Proofs.YtbppedokdfmnoaaGreatDoor

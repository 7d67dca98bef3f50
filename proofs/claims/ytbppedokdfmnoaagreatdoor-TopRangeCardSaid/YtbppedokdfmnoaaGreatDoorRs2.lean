/- Part of the executor and its soundness, or of what it is told of this seat's program. No statement of the seat is proved here. -/
import Derived.Test.YtbppedokdfmnoaaGreatDoorRe
set_option linter.unusedSimpArgs false
set_option linter.unusedVariables false
namespace Go.Proofs.YtbppedokdfmnoaaGreatDoor
open Go.Sx
noncomputable def hS2 (d : Dr) (N n L M B A : Int) (ck : Nat) (pk lf od lg : List (List SV)) : HW := hwT 30 ⟨⟨.glob 0 457 pow10,
 .gap 90 6 L 6 1486 lg [] [],
 .row 3 1 [[.int .i64 0]],
 .mapB [(.int .i64 0, (.agg [.int .i64 0, .int .i64 1099511627776, .int .i64 1099511627776], 0))] 1,
 .mapB [] 0,
 .mapB [(.int .i64 0, (.agg [.int .i64 0, .int .i64 1, .bs .i64 M 0 2952069120 1095217643520], 0))] 1,
 .fix 254 [.int .i64 1099511627776, .mp 5, .mp 4, .bs .i64 M (-2952069120) 0 1092265574400, .int .i64 0],
 .fix 176 [.ptr 6 0, .mp 3],
 .gap 188 5 N 1 371 pk [[.bs .i64 N 1 2 372, .int .i64 0, .int .i64 4096, .bs .i64 N (-1) 0 370, .int .i64 (-1)]] [],
 .gap 3 1 n 0 370 od [[.bs .i64 N 0 1 371]] [],
 .gap 303 4 N 1 371 lf [[.int .i64 0, .int .i64 4096, .int .i64 1, .int .i64 0]] [],
 .fix 110 (.sl 10 :: .int .i64 0 :: .bs .i64 N 1 2 372 :: .bs .i64 N 0 1 371 :: .int .i64 0 :: .bs .i64 B 0 0 1519616 :: .int .i64 0 :: .sl 9 :: flZ 31),
 .mapB [] ck,
 .fix 309 [.iv .i64 d.6 1 64 1 0, .bs .i64 N 0 1 371, .mp 12],
 .fix 307 [.iv .i64 d.6 1 64 1 0, .iv .i64 d.5 1 4 1 0, .bs .i64 N 0 1 371, .nils],
 .fix 299 (chan N 0 1 371)⟩,
 ⟨.fix 199 [.ptr 15 0, .ptr 14 0, .ptr 13 0, .bs .i64 N 0 1 371, .bs .i64 A 0 0 2063502],
 .prow 194 1 [[.ptr 16 0]],
 .row 188 5 [[.bs .i64 N 1 2 372, .int .i64 0, .int .i64 4096, .bs .i64 N (-1) 0 370, .int .i64 (-1)], [.int .i64 0, .int .i64 0, .int .i64 0, .int .i64 0, .int .i64 0]],
 .fix 222 [.int .i64 64, .int .i64 262144, .ss 18 0 1, .int .i64 4096],
 .prow 133 1 [[.ptr 19 0]],
 .row 82 5 [[.str [], .int .i64 (-1), .int .i64 0, .int .i64 0, .int .i64 0]],
 .fix 185 [.int .i64 0, .int .i64 0, .int .i64 1, .int .i64 64, .int .i64 262144, .int .i64 1099511627776, .int .i64 1099511627776],
 .prow 219 1 [[.ptr 22 0]],
 .mapB [(.str [115, 97], (.int .i64 0, 0))] 1,
 .row 305 4 [[.int .i64 0, .str [115, 97], .int .i64 1, .int .i64 0]],
 .fix 102 [.int .i64 512, .int .i64 2, .sl 25, .mp 24, .sl 23, .int .i64 1],
 .row 61 2 [[.int .i64 6000, .int .i64 100], [.int .i64 54000, .int .i64 50]],
 .fix 76 [.int .i64 2, .iv .i64 d.1 1 1048575 1 0, .iv .i64 d.2 2 1048576 1 0, .int .i64 0, .int .i64 0, .int .i64 0, .iv .i64 d.3 1 4 1 0, .iv .i64 d.4 4096 8096 1 0, .int .i64 1048576, .iv .i64 d.5 1 4 1 0, .iv .i64 d.6 1 64 1 0, .iv .i64 d.7 256 5000 1 0, .int .i64 512, .int .i64 1099511627776, .sl 27, .int .i64 2, .bs .i64 N 0 1 371, .int .i64 0, .ff, .int .i64 0, .ptr 26 0, .sl 21, .sl 20, .sl 17, .ptr 11 0, .sl 8, .ifc 120 (.agg [.ptr 7 0]), .sl 2, .sl 1],
 .fix 33 [.int .i64 2, .iv .i64 d.1 1 1048575 1 0, .iv .i64 d.2 2 1048576 1 0, .int .i64 0, .int .i64 0, .int .i64 0, .iv .i64 d.3 1 4 1 0, .iv .i64 d.4 4096 8096 1 0, .int .i64 1048576, .iv .i64 d.5 1 4 1 0, .iv .i64 d.6 1 64 1 0, .iv .i64 d.7 256 5000 1 0, .int .i64 512, .int .i64 1099511627776, .rs 2 [[.int .i64 6000, .int .i64 100], [.int .i64 54000, .int .i64 50]]],
 .dead,
 .dead⟩,
 R16.rep .dead,
 R16.rep .dead,
 R16.rep .dead,
 R16.rep .dead,
 R16.rep .dead,
 R16.rep .dead,
 R16.rep .dead,
 R16.rep .dead,
 R16.rep .dead,
 R16.rep .dead,
 R16.rep .dead,
 R16.rep .dead,
 R16.rep .dead,
 R16.rep .dead⟩
noncomputable def fS2 (N : Int) : FW := fwT ⟨.any, .any, .any, .any, .ptr 29 0, .ptr 28 0, .any, .any, .any, .bs .i64 N 0 1 371, .any, .any, .any, .any, .any, .any⟩
noncomputable def bS2 (d : Dr) (N n L M B A : Int) (ck : Nat) (pk lf od lg : List (List SV)) : Hp := [.glob 0 457 pow10,
 .gap 90 6 L 6 1486 lg [] [],
 .row 3 1 [[.int .i64 0]],
 .mapB [(.int .i64 0, (.agg [.int .i64 0, .int .i64 1099511627776, .int .i64 1099511627776], 0))] 1,
 .mapB [] 0,
 .mapB [(.int .i64 0, (.agg [.int .i64 0, .int .i64 1, .bs .i64 M 0 2952069120 1095217643520], 0))] 1,
 .fix 254 [.int .i64 1099511627776, .mp 5, .mp 4, .bs .i64 M (-2952069120) 0 1092265574400, .int .i64 0],
 .fix 176 [.ptr 6 0, .mp 3],
 .gap 188 5 N 1 371 pk [[.bs .i64 N 1 2 372, .int .i64 0, .int .i64 4096, .bs .i64 N (-1) 0 370, .int .i64 (-1)]] [],
 .gap 3 1 n 0 370 od [[.bs .i64 N 0 1 371]] [],
 .gap 303 4 N 1 371 lf [[.int .i64 0, .int .i64 4096, .int .i64 1, .int .i64 0]] [],
 .fix 110 (.sl 10 :: .int .i64 0 :: .bs .i64 N 1 2 372 :: .bs .i64 N 0 1 371 :: .int .i64 0 :: .bs .i64 B 0 0 1519616 :: .int .i64 0 :: .sl 9 :: flZ 31),
 .mapB [] ck,
 .fix 309 [.iv .i64 d.6 1 64 1 0, .bs .i64 N 0 1 371, .mp 12],
 .fix 307 [.iv .i64 d.6 1 64 1 0, .iv .i64 d.5 1 4 1 0, .bs .i64 N 0 1 371, .nils],
 .fix 299 (chan N 0 1 371),
 .fix 199 [.ptr 15 0, .ptr 14 0, .ptr 13 0, .bs .i64 N 0 1 371, .bs .i64 A 0 0 2063502],
 .prow 194 1 [[.ptr 16 0]],
 .row 188 5 [[.bs .i64 N 1 2 372, .int .i64 0, .int .i64 4096, .bs .i64 N (-1) 0 370, .int .i64 (-1)], [.int .i64 0, .int .i64 0, .int .i64 0, .int .i64 0, .int .i64 0]],
 .fix 222 [.int .i64 64, .int .i64 262144, .ss 18 0 1, .int .i64 4096],
 .prow 133 1 [[.ptr 19 0]],
 .row 82 5 [[.str [], .int .i64 (-1), .int .i64 0, .int .i64 0, .int .i64 0]],
 .fix 185 [.int .i64 0, .int .i64 0, .int .i64 1, .int .i64 64, .int .i64 262144, .int .i64 1099511627776, .int .i64 1099511627776],
 .prow 219 1 [[.ptr 22 0]],
 .mapB [(.str [115, 97], (.int .i64 0, 0))] 1,
 .row 305 4 [[.int .i64 0, .str [115, 97], .int .i64 1, .int .i64 0]],
 .fix 102 [.int .i64 512, .int .i64 2, .sl 25, .mp 24, .sl 23, .int .i64 1],
 .row 61 2 [[.int .i64 6000, .int .i64 100], [.int .i64 54000, .int .i64 50]],
 .fix 76 [.int .i64 2, .iv .i64 d.1 1 1048575 1 0, .iv .i64 d.2 2 1048576 1 0, .int .i64 0, .int .i64 0, .int .i64 0, .iv .i64 d.3 1 4 1 0, .iv .i64 d.4 4096 8096 1 0, .int .i64 1048576, .iv .i64 d.5 1 4 1 0, .iv .i64 d.6 1 64 1 0, .iv .i64 d.7 256 5000 1 0, .int .i64 512, .int .i64 1099511627776, .sl 27, .int .i64 2, .bs .i64 N 0 1 371, .int .i64 0, .ff, .int .i64 0, .ptr 26 0, .sl 21, .sl 20, .sl 17, .ptr 11 0, .sl 8, .ifc 120 (.agg [.ptr 7 0]), .sl 2, .sl 1],
 .fix 33 [.int .i64 2, .iv .i64 d.1 1 1048575 1 0, .iv .i64 d.2 2 1048576 1 0, .int .i64 0, .int .i64 0, .int .i64 0, .iv .i64 d.3 1 4 1 0, .iv .i64 d.4 4096 8096 1 0, .int .i64 1048576, .iv .i64 d.5 1 4 1 0, .iv .i64 d.6 1 64 1 0, .iv .i64 d.7 256 5000 1 0, .int .i64 512, .int .i64 1099511627776, .rs 2 [[.int .i64 6000, .int .i64 100], [.int .i64 54000, .int .i64 50]]]]
end Go.Proofs.YtbppedokdfmnoaaGreatDoor

namespace Go.Proofs.YtbppedokdfmnoaaGreatDoor
open Go.Sx
noncomputable def hT2 (d : Dr) (N n L M B A : Int) (ck : Nat) (pk lf od lg : List (List SV)) : HW := hwT 30 ⟨⟨.glob 0 457 pow10,
 .gap 90 6 (L) 6 1486 (lg) [[.bs .i64 (N) 0 1 371, .int .i64 1, .int .i64 0, .bs .i64 (N) 2 3 373, .int .i64 0, .int .i64 4096], [.bs .i64 (N) 0 1 371, .int .i64 5, .int .i64 0, .int .i64 0, .int .i64 1, .int .i64 0], [.bs .i64 (N) 0 1 371, .int .i64 3, .int .i64 0, .bs .i64 (N) 1 2 372, .int .i64 0, .int .i64 1], [.bs .i64 (N) 0 1 371, .int .i64 4, .int .i64 0, .bs .i64 (N) 1 2 372, .int .i64 0, .int .i64 0]] [],
 .row 3 1 [[.int .i64 0]],
 .mapB [(.int .i64 0, (.agg [.int .i64 0, .int .i64 1099511627776, .int .i64 1099511627776], 0))] 1,
 .mapB [] 0,
 .mapB [(.int .i64 0, (.agg [.int .i64 0, .int .i64 1, .bs .i64 (M) 2952069120 5904138240 1098169712640], 0))] 1,
 .fix 254 [.int .i64 1099511627776, .mp 5, .mp 4, .bs .i64 (M) 0 2952069120 1095217643520, .int .i64 0],
 .fix 176 [.ptr 6 0, .mp 3],
 .gap 188 5 (N) 1 371 (pk) [[.bs .i64 (N) 1 2 372, .int .i64 0, .int .i64 4096, .bs .i64 (N) (-1) 0 370, .int .i64 (-1)], [.bs .i64 (N) 2 3 373, .int .i64 0, .int .i64 4096, .bs .i64 (N) 0 1 371, .int .i64 (-1)]] [],
 .gap 3 1 (n) 0 370 (od) [[.bs .i64 (N) 0 1 371], [.bs .i64 (N) 1 2 372]] [],
 .gap 303 4 (N) 1 371 (lf) [[.int .i64 0, .int .i64 4096, .int .i64 3, .int .i64 0], [.int .i64 0, .int .i64 4096, .int .i64 1, .int .i64 0]] [],
 .fix 110 (.sl 10 :: .int .i64 0 :: .bs .i64 (N) 2 3 373 :: .bs .i64 (N) 1 2 372 :: .int .i64 0 :: .bs .i64 (B) 4096 4096 1523712 :: .int .i64 0 :: .sl 9 :: flZ 31),
 .mapB [] (Nat.succ ck),
 .fix 309 [.iv .i64 d.6 1 64 1 0, .bs .i64 (N) 1 2 372, .mp 12],
 .fix 307 [.iv .i64 d.6 1 64 1 0, .iv .i64 d.5 1 4 1 0, .bs .i64 (N) 1 2 372, .nils],
 .fix 299 (chan N 1 2 372)⟩,
 ⟨.fix 199 [.ptr 15 0, .ptr 14 0, .ptr 13 0, .bs .i64 (N) 1 2 372, .bs .i64 (A) 5562 5562 2069064],
 .prow 194 1 [[.ptr 16 0]],
 .row 188 5 [[.bs .i64 (N) 2 3 373, .int .i64 0, .int .i64 4096, .bs .i64 (N) 0 1 371, .int .i64 (-1)], [.int .i64 0, .int .i64 0, .int .i64 0, .int .i64 0, .int .i64 0]],
 .fix 222 [.int .i64 64, .int .i64 262144, .ss 18 0 1, .int .i64 4096],
 .prow 133 1 [[.ptr 19 0]],
 .row 82 5 [[.str [], .int .i64 (-1), .int .i64 0, .int .i64 0, .int .i64 0]],
 .fix 185 [.int .i64 0, .int .i64 0, .int .i64 1, .int .i64 64, .int .i64 262144, .int .i64 1099511627776, .int .i64 1099511627776],
 .prow 219 1 [[.ptr 22 0]],
 .mapB [(.str [115, 97], (.int .i64 0, 0))] 1,
 .row 305 4 [[.int .i64 0, .str [115, 97], .int .i64 1, .int .i64 0]],
 .fix 102 [.int .i64 512, .int .i64 2, .sl 25, .mp 24, .sl 23, .int .i64 1],
 .row 61 2 [[.int .i64 6000, .int .i64 100], [.int .i64 54000, .int .i64 50]],
 .fix 76 [.int .i64 2, .iv .i64 d.1 1 1048575 1 0, .iv .i64 d.2 2 1048576 1 0, .int .i64 0, .int .i64 0, .int .i64 0, .iv .i64 d.3 1 4 1 0, .iv .i64 d.4 4096 8096 1 0, .int .i64 1048576, .iv .i64 d.5 1 4 1 0, .iv .i64 d.6 1 64 1 0, .iv .i64 d.7 256 5000 1 0, .int .i64 512, .int .i64 1099511627776, .sl 27, .int .i64 2, .bs .i64 (N) 1 2 372, .int .i64 0, .ff, .int .i64 0, .ptr 26 0, .sl 21, .sl 20, .sl 17, .ptr 11 0, .sl 8, .ifc 120 (.agg [.ptr 7 0]), .sl 2, .sl 1],
 .fix 33 [.int .i64 2, .iv .i64 d.1 1 1048575 1 0, .iv .i64 d.2 2 1048576 1 0, .int .i64 0, .int .i64 0, .int .i64 0, .iv .i64 d.3 1 4 1 0, .iv .i64 d.4 4096 8096 1 0, .int .i64 1048576, .iv .i64 d.5 1 4 1 0, .iv .i64 d.6 1 64 1 0, .iv .i64 d.7 256 5000 1 0, .int .i64 512, .int .i64 1099511627776, .rs 2 [[.int .i64 6000, .int .i64 100], [.int .i64 54000, .int .i64 50]]],
 .dead,
 .dead⟩,
 R16.rep .dead,
 R16.rep .dead,
 R16.rep .dead,
 R16.rep .dead,
 R16.rep .dead,
 R16.rep .dead,
 R16.rep .dead,
 R16.rep .dead,
 R16.rep .dead,
 R16.rep .dead,
 R16.rep .dead,
 R16.rep .dead,
 R16.rep .dead,
 R16.rep .dead⟩
noncomputable def bT2 (d : Dr) (N n L M B A : Int) (ck : Nat) (pk lf od lg : List (List SV)) : Hp := [.glob 0 457 pow10,
 .gap 90 6 (L) 6 1486 (lg) [[.bs .i64 (N) 0 1 371, .int .i64 1, .int .i64 0, .bs .i64 (N) 2 3 373, .int .i64 0, .int .i64 4096], [.bs .i64 (N) 0 1 371, .int .i64 5, .int .i64 0, .int .i64 0, .int .i64 1, .int .i64 0], [.bs .i64 (N) 0 1 371, .int .i64 3, .int .i64 0, .bs .i64 (N) 1 2 372, .int .i64 0, .int .i64 1], [.bs .i64 (N) 0 1 371, .int .i64 4, .int .i64 0, .bs .i64 (N) 1 2 372, .int .i64 0, .int .i64 0]] [],
 .row 3 1 [[.int .i64 0]],
 .mapB [(.int .i64 0, (.agg [.int .i64 0, .int .i64 1099511627776, .int .i64 1099511627776], 0))] 1,
 .mapB [] 0,
 .mapB [(.int .i64 0, (.agg [.int .i64 0, .int .i64 1, .bs .i64 (M) 2952069120 5904138240 1098169712640], 0))] 1,
 .fix 254 [.int .i64 1099511627776, .mp 5, .mp 4, .bs .i64 (M) 0 2952069120 1095217643520, .int .i64 0],
 .fix 176 [.ptr 6 0, .mp 3],
 .gap 188 5 (N) 1 371 (pk) [[.bs .i64 (N) 1 2 372, .int .i64 0, .int .i64 4096, .bs .i64 (N) (-1) 0 370, .int .i64 (-1)], [.bs .i64 (N) 2 3 373, .int .i64 0, .int .i64 4096, .bs .i64 (N) 0 1 371, .int .i64 (-1)]] [],
 .gap 3 1 (n) 0 370 (od) [[.bs .i64 (N) 0 1 371], [.bs .i64 (N) 1 2 372]] [],
 .gap 303 4 (N) 1 371 (lf) [[.int .i64 0, .int .i64 4096, .int .i64 3, .int .i64 0], [.int .i64 0, .int .i64 4096, .int .i64 1, .int .i64 0]] [],
 .fix 110 (.sl 10 :: .int .i64 0 :: .bs .i64 (N) 2 3 373 :: .bs .i64 (N) 1 2 372 :: .int .i64 0 :: .bs .i64 (B) 4096 4096 1523712 :: .int .i64 0 :: .sl 9 :: flZ 31),
 .mapB [] (Nat.succ ck),
 .fix 309 [.iv .i64 d.6 1 64 1 0, .bs .i64 (N) 1 2 372, .mp 12],
 .fix 307 [.iv .i64 d.6 1 64 1 0, .iv .i64 d.5 1 4 1 0, .bs .i64 (N) 1 2 372, .nils],
 .fix 299 (chan N 1 2 372),
 .fix 199 [.ptr 15 0, .ptr 14 0, .ptr 13 0, .bs .i64 (N) 1 2 372, .bs .i64 (A) 5562 5562 2069064],
 .prow 194 1 [[.ptr 16 0]],
 .row 188 5 [[.bs .i64 (N) 2 3 373, .int .i64 0, .int .i64 4096, .bs .i64 (N) 0 1 371, .int .i64 (-1)], [.int .i64 0, .int .i64 0, .int .i64 0, .int .i64 0, .int .i64 0]],
 .fix 222 [.int .i64 64, .int .i64 262144, .ss 18 0 1, .int .i64 4096],
 .prow 133 1 [[.ptr 19 0]],
 .row 82 5 [[.str [], .int .i64 (-1), .int .i64 0, .int .i64 0, .int .i64 0]],
 .fix 185 [.int .i64 0, .int .i64 0, .int .i64 1, .int .i64 64, .int .i64 262144, .int .i64 1099511627776, .int .i64 1099511627776],
 .prow 219 1 [[.ptr 22 0]],
 .mapB [(.str [115, 97], (.int .i64 0, 0))] 1,
 .row 305 4 [[.int .i64 0, .str [115, 97], .int .i64 1, .int .i64 0]],
 .fix 102 [.int .i64 512, .int .i64 2, .sl 25, .mp 24, .sl 23, .int .i64 1],
 .row 61 2 [[.int .i64 6000, .int .i64 100], [.int .i64 54000, .int .i64 50]],
 .fix 76 [.int .i64 2, .iv .i64 d.1 1 1048575 1 0, .iv .i64 d.2 2 1048576 1 0, .int .i64 0, .int .i64 0, .int .i64 0, .iv .i64 d.3 1 4 1 0, .iv .i64 d.4 4096 8096 1 0, .int .i64 1048576, .iv .i64 d.5 1 4 1 0, .iv .i64 d.6 1 64 1 0, .iv .i64 d.7 256 5000 1 0, .int .i64 512, .int .i64 1099511627776, .sl 27, .int .i64 2, .bs .i64 (N) 1 2 372, .int .i64 0, .ff, .int .i64 0, .ptr 26 0, .sl 21, .sl 20, .sl 17, .ptr 11 0, .sl 8, .ifc 120 (.agg [.ptr 7 0]), .sl 2, .sl 1],
 .fix 33 [.int .i64 2, .iv .i64 d.1 1 1048575 1 0, .iv .i64 d.2 2 1048576 1 0, .int .i64 0, .int .i64 0, .int .i64 0, .iv .i64 d.3 1 4 1 0, .iv .i64 d.4 4096 8096 1 0, .int .i64 1048576, .iv .i64 d.5 1 4 1 0, .iv .i64 d.6 1 64 1 0, .iv .i64 d.7 256 5000 1 0, .int .i64 512, .int .i64 1099511627776, .rs 2 [[.int .i64 6000, .int .i64 100], [.int .i64 54000, .int .i64 50]]]]
noncomputable def sT2 (N : Int) : List SV := [.ptr 29 0, .ptr 28 0, .bs .i64 (N) 1 2 372]
def roundQ2 (ls : List Int) (d : Dr) (N n L M B A : Int) (ck : Nat) (pk lf od lg : List (List SV)) : Prop := codeV Tryz.prog (envR ls 2 d) (run (envR ls 2 d)) 1 103 lawLoop (fS2 N) (hS2 d N n L M B A ck pk lf od lg) [] fun x F' H' wr => x = .normal /\ tidyV 103 1 gH [4, 5, 9] F' H' wr fun ss H'' => ss = sT2 N /\ H'' = hT2 d N n L M B A ck pk lf od lg
def roundA2 (d : Dr) (N n L M B A : Int) (ck : Nat) (pk lf od lg : List (List SV)) : Prop := N = N /\ N = N /\ N = N /\ chan N 0 1 371 = chan N 0 1 371 /\ M = M /\ M = M /\ M = M /\ M = M /\ N = N /\ N = N /\ N = N /\ N = N /\ N = N /\ N = N /\ N = N /\ N = N /\ N = N /\ N = N /\ N = N /\ N = N /\ N = N /\ N = N /\ N = N /\ N = N /\ N = N /\ N = N /\ N = N /\ N = N /\ N = N /\ N = N /\ N = N /\ N = N /\ N = N /\ n = n /\ n = n /\ N = N /\ N = N /\ N = N /\ N = N /\ N = N /\ N = N /\ N = N /\ N = N /\ N = N /\ N = N /\ N = N /\ chan N 0 1 371 = chan N 0 1 371 /\ SX.normal = SX.normal /\ sT2 N = sT2 N /\ hT2 d N n L M B A ck pk lf od lg = hT2 d N n L M B A ck pk lf od lg
theorem round2 (ls : List Int) (d : Dr) (N n L M B A : Int) (ck : Nat) (pk lf od lg : List (List SV)) : roundQ2 ls d N n L M B A ck pk lf od lg = roundA2 d N n L M B A ck pk lf od lg := by kernel_rfl
theorem roundA2_true (d : Dr) (N n L M B A : Int) (ck : Nat) (pk lf od lg : List (List SV)) : roundA2 d N n L M B A ck pk lf od lg := by
 unfold roundA2
 repeat' (first | exact ⟨rfl, rfl⟩ | refine ⟨rfl, ?_⟩)
end Go.Proofs.YtbppedokdfmnoaaGreatDoor

namespace Go.Proofs.YtbppedokdfmnoaaGreatDoor
open Go.Sx
set_option maxRecDepth 100000 in
theorem weak2 (d : Dr) (N n L M B A : Int) (ck : Nat) (pk lf od lg : List (List SV)) (h1 : 1 <= N) (h2 : N <= 370) (hn : n = N - 1) (hL : L = 4 * N + 2) (hM : M = 2952069120 * N) (hB : B = 4096 * N) (hA : A = 5562 * N) (kp : (pk.length : Int) = N) (kf : (lf.length : Int) = N) (ko : (od.length : Int) = n) (kg : (lg.length : Int) = L) : HWk (bT2 d N n L M B A ck pk lf od lg) (bS2 d (N + 1) (n + 1) (L + 4) (M + 2952069120) (B + 4096) (A + 5562) (ck + 1) (pk ++ [[.int .i64 (N + 1), .int .i64 0, .int .i64 4096, .int .i64 (N - 1), .int .i64 (-1)]]) (lf ++ [[.int .i64 0, .int .i64 4096, .int .i64 3, .int .i64 0]]) (od ++ [[.int .i64 (N)]]) (lg ++ [[.int .i64 (N), .int .i64 1, .int .i64 0, .int .i64 (N + 2), .int .i64 0, .int .i64 4096], [.int .i64 (N), .int .i64 5, .int .i64 0, .int .i64 0, .int .i64 1, .int .i64 0], [.int .i64 (N), .int .i64 3, .int .i64 0, .int .i64 (N + 1), .int .i64 0, .int .i64 1], [.int .i64 (N), .int .i64 4, .int .i64 0, .int .i64 (N + 1), .int .i64 0, .int .i64 0]])) := by
 unfold bT2 bS2
 refine .cons (by exact BW.refl) ?_
 refine .cons (by exact BW.gapTo (l := lg ++ [[.int .i64 (N), .int .i64 1, .int .i64 0, .int .i64 (N + 2), .int .i64 0, .int .i64 4096], [.int .i64 (N), .int .i64 5, .int .i64 0, .int .i64 0, .int .i64 1, .int .i64 0], [.int .i64 (N), .int .i64 3, .int .i64 0, .int .i64 (N + 1), .int .i64 0, .int .i64 1], [.int .i64 (N), .int .i64 4, .int .i64 0, .int .i64 (N + 1), .int .i64 0, .int .i64 0]]) (RWs.append .refl (RWs.cons (SWs.cons (.bsI (by omega)) (SWs.cons (.refl) (SWs.cons (.refl) (SWs.cons (.bsI (by omega)) SWs.refl)))) (RWs.cons (SWs.cons (.bsI (by omega)) SWs.refl) (RWs.cons (SWs.cons (.bsI (by omega)) (SWs.cons (.refl) (SWs.cons (.refl) (SWs.cons (.bsI (by omega)) SWs.refl)))) (RWs.cons (SWs.cons (.bsI (by omega)) (SWs.cons (.refl) (SWs.cons (.refl) (SWs.cons (.bsI (by omega)) SWs.refl)))) RWs.nil))))) (by simp) (by omega) (by omega) (by simp; omega)) ?_
 refine .cons (by exact BW.refl) ?_
 refine .cons (by exact BW.refl) ?_
 refine .cons (by exact BW.refl) ?_
 refine .cons (by exact BW.mapB1 (.refl) (.agg (SWs.cons (.refl) (SWs.cons (.refl) (SWs.cons (.bs (by omega) (by omega) (by omega)) SWs.refl))))) ?_
 refine .cons (by exact BW.fix (SWs.cons (.refl) (SWs.cons (.refl) (SWs.cons (.refl) (SWs.cons (.bs (by omega) (by omega) (by omega)) SWs.refl))))) ?_
 refine .cons (by exact BW.refl) ?_
 refine .cons (by exact BW.gapTo (l := pk ++ [[.int .i64 (N + 1), .int .i64 0, .int .i64 4096, .int .i64 (N - 1), .int .i64 (-1)], [.bs .i64 (N + 1) 1 2 372, .int .i64 0, .int .i64 4096, .bs .i64 (N + 1) (-1) 0 370, .int .i64 (-1)]]) (RWs.append .refl (RWs.cons (SWs.cons (.bsI (by omega)) (SWs.cons (.refl) (SWs.cons (.refl) (SWs.cons (.bsI (by omega)) SWs.refl)))) (RWs.cons (SWs.cons (.bs (by omega) (by omega) (by omega)) (SWs.cons (.refl) (SWs.cons (.refl) (SWs.cons (.bs (by omega) (by omega) (by omega)) SWs.refl)))) RWs.nil))) (by simp) (by omega) (by omega) (by simp; omega)) ?_
 refine .cons (by exact BW.gapTo (l := od ++ [[.int .i64 (N)], [.bs .i64 (N + 1) 0 1 371]]) (RWs.append .refl (RWs.cons (SWs.cons (.bsI (by omega)) SWs.refl) (RWs.cons (SWs.cons (.bs (by omega) (by omega) (by omega)) SWs.refl) RWs.nil))) (by simp) (by omega) (by omega) (by simp; omega)) ?_
 refine .cons (by exact BW.gapTo (l := lf ++ [[.int .i64 0, .int .i64 4096, .int .i64 3, .int .i64 0], [.int .i64 0, .int .i64 4096, .int .i64 1, .int .i64 0]]) (RWs.append .refl (RWs.cons SWs.refl (RWs.cons SWs.refl RWs.nil))) (by simp) (by omega) (by omega) (by simp; omega)) ?_
 refine .cons (by exact BW.fix (SWs.cons (.refl) (SWs.cons (.refl) (SWs.cons (.bs (by omega) (by omega) (by omega)) (SWs.cons (.bs (by omega) (by omega) (by omega)) (SWs.cons (.refl) (SWs.cons (.bs (by omega) (by omega) (by omega)) SWs.refl))))))) ?_
 refine .cons (by exact BW.refl) ?_
 refine .cons (by exact BW.fix (SWs.cons (.refl) (SWs.cons (.bs (by omega) (by omega) (by omega)) SWs.refl))) ?_
 refine .cons (by exact BW.fix (SWs.cons (.refl) (SWs.cons (.refl) (SWs.cons (.bs (by omega) (by omega) (by omega)) SWs.refl)))) ?_
 refine .cons (by exact BW.fix (chan_next (by omega) (by omega))) ?_
 refine .cons (by exact BW.fix (SWs.cons (.refl) (SWs.cons (.refl) (SWs.cons (.refl) (SWs.cons (.bs (by omega) (by omega) (by omega)) (SWs.cons (.bs (by omega) (by omega) (by omega)) SWs.refl)))))) ?_
 refine .cons (by exact BW.refl) ?_
 refine .cons (by exact BW.row (RWs.cons (SWs.cons (.bs (by omega) (by omega) (by omega)) (SWs.cons (.refl) (SWs.cons (.refl) (SWs.cons (.bs (by omega) (by omega) (by omega)) SWs.refl)))) (RWs.cons SWs.refl RWs.nil))) ?_
 refine .cons (by exact BW.refl) ?_
 refine .cons (by exact BW.refl) ?_
 refine .cons (by exact BW.refl) ?_
 refine .cons (by exact BW.refl) ?_
 refine .cons (by exact BW.refl) ?_
 refine .cons (by exact BW.refl) ?_
 refine .cons (by exact BW.refl) ?_
 refine .cons (by exact BW.refl) ?_
 refine .cons (by exact BW.refl) ?_
 refine .cons (by exact BW.fix (SWs.cons (.refl) (SWs.cons (.refl) (SWs.cons (.refl) (SWs.cons (.refl) (SWs.cons (.refl) (SWs.cons (.refl) (SWs.cons (.refl) (SWs.cons (.refl) (SWs.cons (.refl) (SWs.cons (.refl) (SWs.cons (.refl) (SWs.cons (.refl) (SWs.cons (.refl) (SWs.cons (.refl) (SWs.cons (.refl) (SWs.cons (.refl) (SWs.cons (.bs (by omega) (by omega) (by omega)) SWs.refl)))))))))))))))))) ?_
 refine .cons (by exact BW.refl) ?_
 exact .nil
end Go.Proofs.YtbppedokdfmnoaaGreatDoor
